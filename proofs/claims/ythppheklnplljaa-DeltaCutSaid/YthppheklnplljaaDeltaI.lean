/-
  The reference's record at the beginning of bytes. Conditions: what the argument's slice holds.
-/
import Derived.Test.YthppheklnplljaaDeltaR
import Derived.Test.YthppheklnplljaaDeltaC
import Derived.Test.YthppheklnplljaaFrameD
import Derived.Test.YthppheklnplljaaDeltaF
namespace Go.Proofs.Ythppheklnplljaa.Delta
open Go.RowKit Go.Proofs.Ythppheklnplljaa.Base Go.Proofs.Ythppheklnplljaa.Word Go.Proofs.Ythppheklnplljaa.Frame Go.Proofs.Ythppheklnplljaa.Sum
set_option linter.unusedVariables false
set_option linter.unusedSimpArgs false
def oneV (b : List UInt8) (number : Int) : List Mv × Nat :=
  if (opn b).e ≠ 0 ∨ (opn b).k ≠ 68 then ([], 0) else if (bodyV (opn b).body number).2 = false then ([], 0) else ((bodyV (opn b).body number).1, (opn b).n)
theorem opn_cut {b : List UInt8} (h : (opn b).e = 0) : frameL (opn b).k (opn b).body = b.take (opn b).n ∧ (opn b).n ≤ b.length ∧ (opn b).body.length ≤ 65535 := by
  have hs := sz_lt b
  unfold opn at h ⊢
  by_cases h1 : b.length < 3 ∨ b.length < sz b + 7
  · rw [if_pos h1] at h
    simp at h
  · rw [if_neg h1] at h ⊢
    by_cases h2 : num ((b.drop (3 + sz b)).take 4) ≠ onL 0 (b.take (3 + sz b))
    · rw [if_pos h2] at h
      simp at h
    · rw [if_neg h2]
      have h2 := Decidable.not_not.1 h2
      have hst := (same_test b (by omega)).2 h2
      refine ⟨?_, by simp only; omega, by simp only [List.length_drop, List.length_take]; omega⟩
      simp only
      rw [hst, show 3 + sz b + 4 = sz b + 7 by omega]
def OneR (r : List Mv × Nat) (w : World) (e : Ending) (w' : World) : Prop := ∃ v, e = .returned (.tuple #[v, .int .i64 (r.2 : Int)]) ∧ Sl w' w.heap.size 48 4 mvC v r.1 ∧ Upd Nil w w'
set_option maxHeartbeats 4000000 in
set_option maxRecDepth 100000 in
theorem oneC (A : Option Addr) (c : Nat) (b : List UInt8) (number : Int) (w : World) (hA : Arg w A 1 bc b) (hc : b.length ≤ c) (hcm : c ≤ maxLen) (hb : b.length ≤ 140737488355328) :
    Calls Try.prog 61 #[.slice A b.length c, .int .i64 number] w (OneR (oneV b number) w) := by
  have ho := ropens A c b w hA hc hcm hb
  have hcut := opn_cut (b := b)
  have hv : oneV b number = if (opn b).e ≠ 0 ∨ (opn b).k ≠ 68 then ([], 0) else if (bodyV (opn b).body number).2 = false then ([], 0) else ((bodyV (opn b).body number).1, (opn b).n) := rfl
  generalize hRR : OneR (oneV b number) w = RR
  have hRH := Lib.hid hRR
  clear hRR
  unfold maxLen at hcm
  unfold OpR at ho
  generalize opn b = o at *
  obtain ⟨k, body, n, e⟩ := o
  simp only at ho hcut hv
  by_cases he : e = 0
  case neg =>
    have hvH := Lib.hid hv
    have heb : (e != 0) = true := by simp [he]
    clear hv
    go_enter Try.func61, Try.ntmps61
    go_wp2_with fail
    refine ho.mono ?_
    rintro e w1 ⟨v1, rfl, hv1, hU1⟩
    go_wp2_with fail
    rw [← hRH.out, hvH.out, if_pos (.inl he)]
    exact ⟨_, rfl, Sl.nil _ _ _ _ _, hU1⟩
  by_cases hk : k = 68
  case neg =>
    have hvH := Lib.hid hv
    subst he
    have hkb : ((k : Int) != 68) = true := by rw [bne_iff_ne]; omega
    clear hv
    go_enter Try.func61, Try.ntmps61
    go_wp2_with fail
    refine ho.mono ?_
    rintro e w1 ⟨v1, rfl, hv1, hU1⟩
    go_wp2_with fail
    rw [← hRH.out, hvH.out, if_pos (.inr hk)]
    exact ⟨_, rfl, Sl.nil _ _ _ _ _, hU1⟩
  subst he hk
  rw [if_neg (by simp)] at hv
  obtain ⟨hfr, hnb, hbl⟩ := hcut rfl
  have hone := fun (j : Nat) (h : j ≤ (manyR body).1 ∧ (j = (manyR body).1 ∨ (bodyN (manyR body).2 j).2.e ≠ 0)) => one_eq (number := number) hfr hbl (show Stops body j from h)
  have hrk : ∀ j f, refOk body number f j = (decide ((bodyN (manyR body).2 j).2.done.1 = 0) && (decide ((recB (headR body).1 (bodyN (manyR body).2 j).1).2 = 0) && (decide (((headR body).1 : Int) = number) && ((recB (headR body).1 (bodyN (manyR body).2 j).1).1 == f)))) := fun _ _ => rfl
  have hml := many_le body
  have hh0 : headR body = (⟨body, 0⟩ : Rd).number 4 := rfl
  have hm0 : manyR body = (headR body).2.number 1 := rfl
  have hpk := Lib.hid (And.intro hv (And.intro hone (And.intro hml hrk)))
  have hnH := Lib.hid hnb
  have hfH := Lib.hid hfr
  have hblH := Lib.hid hbl
  clear hv hone hml hcut hnb hbl hfr hrk
  go_enter Try.func61, Try.ntmps61
  go_wp2_with fail
  refine ho.mono ?_
  rintro e w1 ⟨v1, rfl, hv1, hU1⟩
  clear ho
  obtain ⟨A1, c1, rfl, hc1⟩ := hv1.form
  have hcm1 := hv1.capMax
  have ua := (Upd.refl Nil w1).alloc (.cells #[.slice A1 body.length c1, .int .i64 0] 86)
  have hU2 := hU1.tr ua
  have hQ : QRd (· < w1.heap.size) (w1.alloc (.cells #[.slice A1 body.length c1, .int .i64 0] 86)) w1.heap.size ⟨body, 0⟩ := by
    refine ⟨A1, c1, blk_new _ _, ?_, hc1, hcm1, .inr fun k hk => hv1.lt k hk⟩
    by_cases hb0 : body = []
    · exact .inl hb0
    · exact (hv1.cells bc_len (by omega)).upd ua
  have hs1 := hU1.size
  go_wp2_with fail
  generalize w1.alloc (.cells #[.slice A1 body.length c1, .int .i64 0] 86) = w2 at *
  generalize hrb : w1.heap.size = rb at *
  have hrbw : w.heap.size ≤ rb := hs1
  have hFb : ¬ (fun x => x < rb) rb := Nat.lt_irrefl rb
  clear hU1 ua hv1 hs1 hrb
  have q1 := qnumber (· < rb) rb hFb ⟨body, 0⟩ 4 w2 hQ
  rw [← hh0] at q1
  generalize headR body = hd at *
  obtain ⟨hn, r1⟩ := hd
  simp only at q1 hm0
  refine q1.mono ?_
  rintro e w3 ⟨rfl, hQ3, hU3⟩
  have hU03 := hU2.trans hU3 (fun x hx => .inr (by cases hx; exact hrbw))
  have q2 := qnumber (· < rb) rb hFb r1 1 w3 hQ3
  rw [← hm0] at q2
  generalize hmr : manyR body = md at *
  obtain ⟨many, r2⟩ := md
  simp only at q2
  go_wp2_with fail
  refine q2.mono ?_
  rintro e w4 ⟨rfl, hQ4, hU4⟩
  have hU04 := hU03.trans hU4 (fun x hx => .inr (by cases hx; exact hrbw))
  have hn0 : Sl w4 rb 48 4 mvC (.slice none 0 0) (bodyN r2 0).1 := Sl.nil _ _ _ _ _
  have hmH := Lib.hid hmr
  clear q1 q2 hU2 hU3 hU4 hQ hQ3 hU03 hm0 hh0 hmr
  go_wp2_with fail
  go_loopw [13, 14] (fun s13 s14 wr => ∃ (i : Nat) (V : Value), i ≤ many ∧ s14 = .int .i64 (i : Int) ∧ s13 = V ∧ Sl wr rb 48 4 mvC V (bodyN r2 i).1 ∧ QRd (· < rb) wr rb (bodyN r2 i).2 ∧ Upd Nil w wr) (fun _ s14 _ => many - (intOf s14).toNat)
  case atStart => exact ⟨0, _, by omega, rfl, rfl, hn0, hQ4, hU04⟩
  case round =>
    clear hn0 hQ4 hU04
    obtain ⟨i, V, hi, rfl, rfl, hV, hQ5, hU5⟩ := hrel
    obtain ⟨AR, cR, hbR, _, _, _, _⟩ := id hQ5
    have x1 := blk_cell hbR 1
    simp only [List.getElem?_toArray, List.getElem?_cons_zero, List.getElem?_cons_succ] at x1
    by_cases hlt : i < many
    · by_cases he : (bodyN r2 i).2.e = 0
      · rw [he] at x1
        have hsz := hU5.size
        have hil : (bodyN r2 i).1.length ≤ 4398046511000 := by rw [bodyN_len]; have := hpk.out.2.2.1; omega
        have g1 : (bodyN r2 (i + 1)).1 = (bodyN r2 i).1 ++ [(step (bodyN r2 i).2).1] ∧ (bodyN r2 (i + 1)).2 = (step (bodyN r2 i).2).2 := ⟨rfl, rfl⟩
        have hst : step (bodyN r2 i).2 = (⟨((bodyN r2 i).2.number 1).1, (((bodyN r2 i).2.number 1).2.number 1).1, ((((bodyN r2 i).2.number 1).2.number 1).2.number 1).1, (((((bodyN r2 i).2.number 1).2.number 1).2.number 1).2.flag).1⟩, (((((bodyN r2 i).2.number 1).2.number 1).2.number 1).2.flag).2) := rfl
        clear he
        generalize (bodyN r2 i).1 = out at *
        generalize step (bodyN r2 i).2 = st at *
        generalize (bodyN r2 i).2 = r4 at *
        have hkk := Lib.hid (And.intro g1 (And.intro hst hil))
        clear g1 hst hil
        obtain ⟨AV, cV, rfl, _⟩ := hV.form
        have hrbr : rb < wr.heap.size := blk_lt hbR
        clear hbR
        go_wp2_with fail
        refine (qnumber (· < rb) rb hFb r4 1 wr hQ5).mono ?_
        rintro e w6 ⟨rfl, hQ6, hU6⟩
        go_wp2_with fail
        refine (qnumber (· < rb) rb hFb _ 1 w6 hQ6).mono ?_
        rintro e w7 ⟨rfl, hQ7, hU7⟩
        go_wp2_with fail
        refine (qnumber (· < rb) rb hFb _ 1 w7 hQ7).mono ?_
        rintro e w8 ⟨rfl, hQ8, hU8⟩
        have hU58 := (hU6.tr hU7).tr hU8
        generalize (r4.number 1).1 = a at *
        generalize ((r4.number 1).2.number 1).1 = b2 at *
        generalize (((r4.number 1).2.number 1).2.number 1).1 = c2 at *
        generalize (((r4.number 1).2.number 1).2.number 1).2 = r8 at *
        have hVn : ∀ k, (Value.slice AV out.length cV).ownBlock = some k → k ≠ rb := fun k hk => by obtain ⟨_, _, h, _⟩ := hQ5; exact hV.ne h (by decide) k hk
        have hV8 := hV.upd hU58 (fun k hk e => hVn k hk e)
        have hU08 := hU5.trans hU58 (fun x hx => .inr (by cases hx; exact hrbw))
        have ua := (Upd.refl Nil w8).alloc (.cells #[.int .i64 a, .int .i64 b2, .int .i64 c2, .bool false] 48)
        have hx := blk_new w8 (.cells #[.int .i64 a, .int .i64 b2, .int .i64 c2, .bool false] 48)
        have hQ9 := hQ8.upd ua (fun h => h) (fun _ _ h => h)
        have hV9 := hV8.upd0 ua
        have hU09 := hU08.tr ua
        have hxr : rb < w8.heap.size := Nat.lt_of_lt_of_le hrbr hU58.size
        have hxw : w.heap.size ≤ w8.heap.size := hU08.size
        have hVx : ∀ k, (Value.slice AV out.length cV).ownBlock = some k → k ≠ w8.heap.size := fun k hk e => by have := hV8.lt k hk; omega
        clear hQ6 hQ7 hQ8 hU6 hU7 hU8 x1
        go_wp2_with fail
        generalize w8.alloc (.cells #[.int .i64 a, .int .i64 b2, .int .i64 c2, .bool false] 48) = w9 at *
        generalize hxb : w8.heap.size = xb at *
        have hFx : ∀ k, k < rb → ¬ Only xb k := fun k hk e => by have e : k = xb := e; omega
        refine (qflag (· < rb) rb hFb r8 w9 hQ9).mono ?_
        rintro e w10 ⟨rfl, hQ10, hU10⟩
        generalize r8.flag.1 = fl at *
        generalize r8.flag.2 = r10 at *
        have hx10 := hU10.blk hx (fun e => by have e : xb = rb := e; omega)
        have f3 := blk_frozen hx10 3
        have x3 := blk_cell hx10 3
        simp only [List.getElem?_toArray, List.getElem?_cons_zero, List.getElem?_cons_succ] at x3
        have ud11 : Upd (Only xb) w10 (w10.setCell ⟨xb, 3, none⟩ (.bool fl)) := (Upd.refl _ _).set1 _
        have hx11 : (w10.setCell ⟨xb, 3, none⟩ (.bool fl)).heap[xb]? = some (.cells #[.int .i64 a, .int .i64 b2, .int .i64 c2, .bool fl] 48 (0, 0)) := blk_put hx10 3 (.bool fl) rfl
        have hQ11 := hQ10.upd ud11 (fun e => by have e : rb = xb := e; omega) hFx
        have hV11 := (hV9.upd hU10 (fun k hk e => hVn k hk e)).upd ud11 (fun k hk e => hVx k hk e)
        have hU11 := (hU09.trans hU10 (fun x hx => .inr (by cases hx; exact hrbw))).trans ud11 (fun x hx => .inr (by cases hx; exact hxw))
        clear hx hV9 hU09 hU10 ud11 hx10 hQ10 hQ9 hV8 hU08 ua hxb hU5 hQ5 hV
        go_upto_region 13 with fail
        generalize w10.setCell ⟨xb, 3, none⟩ (.bool fl) = w11 at *
        clear f3 x3
        have y0 := blk_cell hx11 0
        have y1 := blk_cell hx11 1
        have y2 := blk_cell hx11 2
        have y3 := blk_cell hx11 3
        simp only [List.getElem?_toArray, List.getElem?_cons_zero, List.getElem?_cons_succ] at y0 y1 y2 y3
        have hs11 : rb ≤ w11.heap.size := Nat.le_of_lt (blk_lt hQ11.choose_spec.choose_spec.1)
        have hap := hkk.out.2.2
        have hmn := hpk.out.2.2.1
        go_wp2_with (at_builtin; refine wp_app1 rb rfl (.tmp 60) (.tmp 62) elemRM rfl w11 (⟨a, b2, c2, fl⟩ : Mv) (by rfl) (.slice AV out.length cV) out rfl (by simp [Act.eval]) hV11 hs11 (app32 hap).1 (app32 hap).2 ?_; intro A12 c12 w12 hv12 hg12 hat12)
        go_roundw
        case measure => simp [intOf]; omega
        case rel => exact ⟨i + 1, _, by omega, by go_num, rfl, by rw [hkk.out.1.1, hkk.out.2.1]; exact hv12, by rw [hkk.out.1.2, hkk.out.2.1]; exact hQ11.upd (S := fun k => ((Value.slice AV out.length cV).ownBlock = some k)) ⟨hg12.os, hg12.output, hg12.size, fun k hk hn => hg12.block k hk (fun e => hn e.symm)⟩ (fun e => hVn rb e rfl) (fun k hk e => by have := (hV11.typed k e).1; omega), hU11.grownOwn hV11 hrbw hg12⟩
      · have hst : i ≤ many ∧ (i = many ∨ (bodyN r2 i).2.e ≠ 0) := ⟨hi, .inr he⟩
        obtain ⟨ee, hee⟩ : ∃ ee, ee = (bodyN r2 i).2.e := ⟨_, rfl⟩
        rw [← hee] at x1 he
        clear hee hbR
        obtain ⟨e1, e2⟩ := hpk.out.2.1 i hst
        have e3 := hpk.out.2.2.2 i
        have hil : (bodyN r2 i).1.length ≤ 4398046511000 := by rw [bodyN_len]; have := hpk.out.2.2.1; omega
        have hvv := hpk.out.1
        have hRec := fun A c w h => rrecord hn A c (bodyN r2 i).1 w h hil
        have qd := qdone (· < rb) rb hFb (bodyN r2 i).2
        generalize (bodyN r2 i).1 = out at *
        generalize (bodyN r2 i).2 = r5 at *
        generalize recB hn out = rr at *
        obtain ⟨made, f⟩ := rr
        unfold MkR at hRec
        simp only at hRec e3
        obtain ⟨AV, cV, rfl, hcV⟩ := hV.form
        have hpk2 := Lib.hid (And.intro hvv (And.intro (e3 (b.take n)) (And.intro e1 e2)))
        clear e1 e2 e3 hvv hpk hil hst
        have hVA := hV.cells mvC_len (by omega)
        go_wp2_with fail
        refine (hRec _ _ _ hVA).mono ?_
        rintro e w5 ⟨v5, rfl, hv5, hU6⟩
        obtain ⟨A5, c5, rfl, hc5⟩ := hv5.form
        have hV5 := hV.upd0 hU6
        have hQ6 := hQ5.upd hU6 (fun h => h) (fun _ _ h => h)
        have hU7 := hU5.tr hU6
        have hsz5 := hU6.size
        have hrb5 : rb < wr.heap.size := by obtain ⟨_, _, h, _⟩ := hQ5; exact blk_lt h
        have hA5 := (hv5.cells bc_len (by omega)).upd ((Upd.refl Nil w5).drew)
        have hn5 : ∀ k, (Value.slice A5 made.length c5).ownBlock = some k → ¬ Only rb k := fun k hk e => by have := (hv5.typed k hk).1; have e : k = rb := e; omega
        have hnb := hnH.out
        have hT := arg_take (hA.upd hU7) n
        have htl : (b.take n).length = n := List.length_take_of_le hnb
        have hQd := hQ6.upd ((Upd.refl Nil w5).drew) (fun h => h) (fun _ _ h => h)
        have qd2 := qd w5.drew hQd
        clear hRec hVA
        have hUd := hU7.drew
        have kc1 : ∀ w', Upd (Only rb) w5.drew w' → (convert 22 9 (.slice A5 made.length c5)).run Try.prog w' = .ok (.string ⟨made.toArray⟩) w' := fun w' u => cv ((hv5.drew.upd u hn5).cells bc_len (by omega)) c5
        have kc2 : ∀ w', Upd (Only rb) w5.drew w' → (convert 22 9 (.slice A n c)).run Try.prog w' = .ok (.string ⟨(b.take n).toArray⟩) w' := fun w' u => by
          have h := cv (arg_take (hA.upd (hUd.trans u (fun x hx => .inr (by cases hx; exact hrbw)))) n) c
          rwa [htl] at h
        have hVz : ∀ w', Upd (Only rb) w5.drew w' → Sl w' w.heap.size 48 4 mvC (.slice AV out.length cV) out := fun w' u => (hV5.drew.upd u (fun k hk e => by have e : k = rb := e; obtain ⟨_, _, h, _⟩ := hQ6; exact hV5.ne h (by decide) k hk e)).lower hrbw
        have hUz : ∀ w', Upd (Only rb) w5.drew w' → Upd Nil w w' := fun w' u => hUd.trans u (fun x hx => .inr (by cases hx; exact hrbw))
        generalize b.take n = fr at *
        have f4 : (n : Int) ≤ (c : Int) := by omega
        have f5 : (0 : Int) ≤ (n : Int) := by omega
        have hres : refOk body number fr i = (decide (r5.done.1 = 0) && (decide (f = 0) && (decide ((hn : Int) = number) && made == fr))) ∧ refOk body number fr i = (bodyV body number).2 := ⟨hpk2.out.2.1, hpk2.out.2.2.1⟩
        obtain ⟨g1, g2⟩ := hres
        rw [g1] at g2
        clear g1
        generalize r5.done.1 = dn at *
        generalize r5.done.2 = r6 at *
        have g2H := Lib.hid g2
        clear g2 hcV hc5 hV5 hQ6 hQd hA5 hT htl hU7 hUd hU6 hV
        by_cases d1 : dn = 0
        case neg =>
          have d1b : (dn != 0) = true := by simp [d1]
          go_wp2_with fail
          refine wp_region_lex (Only rb) [0, 1, 2, 3, 4, 5, 6, 7, 8, 9, 10, 11, 12, 13, 14, 15, 16, 17, 18, 19, 20] (by kernel_rfl) (by kernel_rfl) rfl (by kernel_rfl) ?_
          simp only [inOrder, List.filterMap_cons, List.filterMap_nil, List.getElem?_cons_zero, List.getElem?_cons_succ]
          try simp only [Act.put, List.setIfInBounds_toArray, List.set_cons_zero, List.set_cons_succ]
          repeat
            first
            | (refine lex_pure (v := ?_) rfl rfl ?_ ?_
               rotate_left
               · intro w' hU'
                 go_simp
                 try with_reducible rfl
               try simp only [Act.put, List.setIfInBounds_toArray, List.set_cons_zero, List.set_cons_succ])
            | (refine lex_skip rfl ?_
               try simp only [Act.put, List.setIfInBounds_toArray, List.set_cons_zero, List.set_cons_succ])
          refine lex_fn (f := 58) (args := #[.pointer (some ⟨rb, 0, none⟩)]) rfl rfl (by go_simp) (qd2.mono ?_)
          rintro e w8 ⟨rfl, _, uz⟩
          refine ⟨_, rfl, uz, ?_⟩
          have ke1 := fun w' (u : Upd (Only rb) w8 w') => kc1 w' (uz.tr u)
          have ke2 := fun w' (u : Upd (Only rb) w8 w') => kc2 w' (uz.tr u)
          clear kc1 kc2
          try simp only [Act.put, List.setIfInBounds_toArray, List.set_cons_zero, List.set_cons_succ]
          repeat
            first
            | (refine lex_pure (v := ?_) rfl rfl ?_ ?_
               rotate_left
               · intro w' hU'
                 go_simp
                 try with_reducible rfl
               try simp only [Act.put, List.setIfInBounds_toArray, List.set_cons_zero, List.set_cons_succ])
            | (refine lex_skip rfl ?_
               try simp only [Act.put, List.setIfInBounds_toArray, List.set_cons_zero, List.set_cons_succ])
          refine lex_done ?_
          have hok : (bodyV body number).2 = false := by rw [← g2H.out]; simp [*]
          go_wp2_with fail
          rw [← hRH.out, hpk2.out.1, if_pos hok]
          exact ⟨_, rfl, Sl.nil _ _ _ _ _, hUz _ uz⟩
        by_cases d2 : f = 0
        case neg =>
          have d2b : (f != 0) = true := by simp [d2]
          subst d1
          go_wp2_with fail
          refine wp_region_lex (Only rb) [0, 1, 2, 3, 4, 5, 6, 7, 8, 9, 10, 11, 12, 13, 14, 15, 16, 17, 18, 19, 20] (by kernel_rfl) (by kernel_rfl) rfl (by kernel_rfl) ?_
          simp only [inOrder, List.filterMap_cons, List.filterMap_nil, List.getElem?_cons_zero, List.getElem?_cons_succ]
          try simp only [Act.put, List.setIfInBounds_toArray, List.set_cons_zero, List.set_cons_succ]
          repeat
            first
            | (refine lex_pure (v := ?_) rfl rfl ?_ ?_
               rotate_left
               · intro w' hU'
                 go_simp
                 try with_reducible rfl
               try simp only [Act.put, List.setIfInBounds_toArray, List.set_cons_zero, List.set_cons_succ])
            | (refine lex_skip rfl ?_
               try simp only [Act.put, List.setIfInBounds_toArray, List.set_cons_zero, List.set_cons_succ])
          refine lex_fn (f := 58) (args := #[.pointer (some ⟨rb, 0, none⟩)]) rfl rfl (by go_simp) (qd2.mono ?_)
          rintro e w8 ⟨rfl, _, uz⟩
          refine ⟨_, rfl, uz, ?_⟩
          have ke1 := fun w' (u : Upd (Only rb) w8 w') => kc1 w' (uz.tr u)
          have ke2 := fun w' (u : Upd (Only rb) w8 w') => kc2 w' (uz.tr u)
          clear kc1 kc2
          try simp only [Act.put, List.setIfInBounds_toArray, List.set_cons_zero, List.set_cons_succ]
          repeat
            first
            | (refine lex_pure (v := ?_) rfl rfl ?_ ?_
               rotate_left
               · intro w' hU'
                 go_simp
                 try with_reducible rfl
               try simp only [Act.put, List.setIfInBounds_toArray, List.set_cons_zero, List.set_cons_succ])
            | (refine lex_skip rfl ?_
               try simp only [Act.put, List.setIfInBounds_toArray, List.set_cons_zero, List.set_cons_succ])
          refine lex_done ?_
          have hok : (bodyV body number).2 = false := by rw [← g2H.out]; simp [*]
          go_wp2_with fail
          rw [← hRH.out, hpk2.out.1, if_pos hok]
          exact ⟨_, rfl, Sl.nil _ _ _ _ _, hUz _ uz⟩
        by_cases d3 : (hn : Int) = number
        case neg =>
          have d3b : ((hn : Int) != number) = true := by rw [bne_iff_ne]; exact d3
          subst d1 d2
          go_wp2_with fail
          refine wp_region_lex (Only rb) [0, 1, 2, 3, 4, 5, 6, 7, 8, 9, 10, 11, 12, 13, 14, 15, 16, 17, 18, 19, 20] (by kernel_rfl) (by kernel_rfl) rfl (by kernel_rfl) ?_
          simp only [inOrder, List.filterMap_cons, List.filterMap_nil, List.getElem?_cons_zero, List.getElem?_cons_succ]
          try simp only [Act.put, List.setIfInBounds_toArray, List.set_cons_zero, List.set_cons_succ]
          repeat
            first
            | (refine lex_pure (v := ?_) rfl rfl ?_ ?_
               rotate_left
               · intro w' hU'
                 go_simp
                 try with_reducible rfl
               try simp only [Act.put, List.setIfInBounds_toArray, List.set_cons_zero, List.set_cons_succ])
            | (refine lex_skip rfl ?_
               try simp only [Act.put, List.setIfInBounds_toArray, List.set_cons_zero, List.set_cons_succ])
          refine lex_fn (f := 58) (args := #[.pointer (some ⟨rb, 0, none⟩)]) rfl rfl (by go_simp) (qd2.mono ?_)
          rintro e w8 ⟨rfl, _, uz⟩
          refine ⟨_, rfl, uz, ?_⟩
          have ke1 := fun w' (u : Upd (Only rb) w8 w') => kc1 w' (uz.tr u)
          have ke2 := fun w' (u : Upd (Only rb) w8 w') => kc2 w' (uz.tr u)
          clear kc1 kc2
          try simp only [Act.put, List.setIfInBounds_toArray, List.set_cons_zero, List.set_cons_succ]
          repeat
            first
            | (refine lex_pure (v := ?_) rfl rfl ?_ ?_
               rotate_left
               · intro w' hU'
                 go_simp
                 try with_reducible rfl
               try simp only [Act.put, List.setIfInBounds_toArray, List.set_cons_zero, List.set_cons_succ])
            | (refine lex_skip rfl ?_
               try simp only [Act.put, List.setIfInBounds_toArray, List.set_cons_zero, List.set_cons_succ])
          refine lex_done ?_
          have hok : (bodyV body number).2 = false := by rw [← g2H.out]; simp [*]
          go_wp2_with fail
          rw [← hRH.out, hpk2.out.1, if_pos hok]
          exact ⟨_, rfl, Sl.nil _ _ _ _ _, hUz _ uz⟩
        have d3b : ((hn : Int) != number) = false := by rw [d3]; simp
        by_cases d4 : made = fr
        case neg =>
          have hns : ((⟨made.toArray⟩ : ByteArray) = ⟨fr.toArray⟩) = False := by simp [d4]
          have hns1 : ((⟨made.toArray⟩ : ByteArray).toList == (⟨fr.toArray⟩ : ByteArray).toList) = false := (Lib.bytes_beq_false_iff _ _).2 (by simp [d4])
          have hns2 : (made == fr) = false := beq_eq_false_iff_ne.mpr d4
          have hns3 : (made.toArray == fr.toArray) = false := by simp [d4]
          have hns4 : (made = fr) = False := eq_false d4
          subst d1 d2
          go_wp2_with fail
          refine wp_region_lex (Only rb) [0, 1, 2, 3, 4, 5, 6, 7, 8, 9, 10, 11, 12, 13, 14, 15, 16, 17, 18, 19, 20] (by kernel_rfl) (by kernel_rfl) rfl (by kernel_rfl) ?_
          simp only [inOrder, List.filterMap_cons, List.filterMap_nil, List.getElem?_cons_zero, List.getElem?_cons_succ]
          try simp only [Act.put, List.setIfInBounds_toArray, List.set_cons_zero, List.set_cons_succ]
          repeat
            first
            | (refine lex_pure (v := ?_) rfl rfl ?_ ?_
               rotate_left
               · intro w' hU'
                 go_simp
                 try with_reducible rfl
               try simp only [Act.put, List.setIfInBounds_toArray, List.set_cons_zero, List.set_cons_succ])
            | (refine lex_skip rfl ?_
               try simp only [Act.put, List.setIfInBounds_toArray, List.set_cons_zero, List.set_cons_succ])
          refine lex_fn (f := 58) (args := #[.pointer (some ⟨rb, 0, none⟩)]) rfl rfl (by go_simp) (qd2.mono ?_)
          rintro e w8 ⟨rfl, _, uz⟩
          refine ⟨_, rfl, uz, ?_⟩
          have ke1 := fun w' (u : Upd (Only rb) w8 w') => kc1 w' (uz.tr u)
          have ke2 := fun w' (u : Upd (Only rb) w8 w') => kc2 w' (uz.tr u)
          clear kc1 kc2
          try simp only [Act.put, List.setIfInBounds_toArray, List.set_cons_zero, List.set_cons_succ]
          repeat
            first
            | (refine lex_pure (v := ?_) rfl rfl ?_ ?_
               rotate_left
               · intro w' hU'
                 go_simp
                 try with_reducible rfl
               try simp only [Act.put, List.setIfInBounds_toArray, List.set_cons_zero, List.set_cons_succ])
            | (refine lex_skip rfl ?_
               try simp only [Act.put, List.setIfInBounds_toArray, List.set_cons_zero, List.set_cons_succ])
          refine lex_done ?_
          have hok : (bodyV body number).2 = false := by rw [← g2H.out]; simp [*]
          go_wp2_with fail
          rw [← hRH.out, hpk2.out.1, if_pos hok]
          exact ⟨_, rfl, Sl.nil _ _ _ _ _, hUz _ uz⟩
        subst d1 d2 d4
        go_wp2_with fail
        refine wp_region_lex (Only rb) [0, 1, 2, 3, 4, 5, 6, 7, 8, 9, 10, 11, 12, 13, 14, 15, 16, 17, 18, 19, 20] (by kernel_rfl) (by kernel_rfl) rfl (by kernel_rfl) ?_
        simp only [inOrder, List.filterMap_cons, List.filterMap_nil, List.getElem?_cons_zero, List.getElem?_cons_succ]
        try simp only [Act.put, List.setIfInBounds_toArray, List.set_cons_zero, List.set_cons_succ]
        repeat
          first
          | (refine lex_pure (v := ?_) rfl rfl ?_ ?_
             rotate_left
             · intro w' hU'
               go_simp
               try with_reducible rfl
             try simp only [Act.put, List.setIfInBounds_toArray, List.set_cons_zero, List.set_cons_succ])
          | (refine lex_skip rfl ?_
             try simp only [Act.put, List.setIfInBounds_toArray, List.set_cons_zero, List.set_cons_succ])
        refine lex_fn (f := 58) (args := #[.pointer (some ⟨rb, 0, none⟩)]) rfl rfl (by go_simp) (qd2.mono ?_)
        rintro e w8 ⟨rfl, _, uz⟩
        refine ⟨_, rfl, uz, ?_⟩
        have ke1 := fun w' (u : Upd (Only rb) w8 w') => kc1 w' (uz.tr u)
        have ke2 := fun w' (u : Upd (Only rb) w8 w') => kc2 w' (uz.tr u)
        clear kc1 kc2
        try simp only [Act.put, List.setIfInBounds_toArray, List.set_cons_zero, List.set_cons_succ]
        repeat
          first
          | (refine lex_pure (v := ?_) rfl rfl ?_ ?_
             rotate_left
             · intro w' hU'
               go_simp
               try with_reducible rfl
             try simp only [Act.put, List.setIfInBounds_toArray, List.set_cons_zero, List.set_cons_succ])
          | (refine lex_skip rfl ?_
             try simp only [Act.put, List.setIfInBounds_toArray, List.set_cons_zero, List.set_cons_succ])
        refine lex_done ?_
        have hok : (bodyV body number).2 = true := by rw [← g2H.out, d3]; simp
        go_wp2_with fail
        rw [← hRH.out, hpk2.out.1, if_neg (by rw [hok]; simp), ← hpk2.out.2.2.2 hok]
        exact ⟨_, rfl, hVz _ uz, hUz _ uz⟩
    · have hst : i ≤ many ∧ (i = many ∨ (bodyN r2 i).2.e ≠ 0) := ⟨hi, .inl (by omega)⟩
      clear x1 hbR
      obtain ⟨e1, e2⟩ := hpk.out.2.1 i hst
      have e3 := hpk.out.2.2.2 i
      have hil : (bodyN r2 i).1.length ≤ 4398046511000 := by rw [bodyN_len]; have := hpk.out.2.2.1; omega
      have hvv := hpk.out.1
      have hRec := fun A c w h => rrecord hn A c (bodyN r2 i).1 w h hil
      have qd := qdone (· < rb) rb hFb (bodyN r2 i).2
      generalize (bodyN r2 i).1 = out at *
      generalize (bodyN r2 i).2 = r5 at *
      generalize recB hn out = rr at *
      obtain ⟨made, f⟩ := rr
      unfold MkR at hRec
      simp only at hRec e3
      obtain ⟨AV, cV, rfl, hcV⟩ := hV.form
      have hpk2 := Lib.hid (And.intro hvv (And.intro (e3 (b.take n)) (And.intro e1 e2)))
      clear e1 e2 e3 hvv hpk hil hst
      have hVA := hV.cells mvC_len (by omega)
      go_wp2_with fail
      refine (hRec _ _ _ hVA).mono ?_
      rintro e w5 ⟨v5, rfl, hv5, hU6⟩
      obtain ⟨A5, c5, rfl, hc5⟩ := hv5.form
      have hV5 := hV.upd0 hU6
      have hQ6 := hQ5.upd hU6 (fun h => h) (fun _ _ h => h)
      have hU7 := hU5.tr hU6
      have hsz5 := hU6.size
      have hrb5 : rb < wr.heap.size := by obtain ⟨_, _, h, _⟩ := hQ5; exact blk_lt h
      have hA5 := (hv5.cells bc_len (by omega)).upd ((Upd.refl Nil w5).drew)
      have hn5 : ∀ k, (Value.slice A5 made.length c5).ownBlock = some k → ¬ Only rb k := fun k hk e => by have := (hv5.typed k hk).1; have e : k = rb := e; omega
      have hnb := hnH.out
      have hT := arg_take (hA.upd hU7) n
      have htl : (b.take n).length = n := List.length_take_of_le hnb
      have hQd := hQ6.upd ((Upd.refl Nil w5).drew) (fun h => h) (fun _ _ h => h)
      have qd2 := qd w5.drew hQd
      clear hRec hVA
      have hUd := hU7.drew
      have kc1 : ∀ w', Upd (Only rb) w5.drew w' → (convert 22 9 (.slice A5 made.length c5)).run Try.prog w' = .ok (.string ⟨made.toArray⟩) w' := fun w' u => cv ((hv5.drew.upd u hn5).cells bc_len (by omega)) c5
      have kc2 : ∀ w', Upd (Only rb) w5.drew w' → (convert 22 9 (.slice A n c)).run Try.prog w' = .ok (.string ⟨(b.take n).toArray⟩) w' := fun w' u => by
        have h := cv (arg_take (hA.upd (hUd.trans u (fun x hx => .inr (by cases hx; exact hrbw)))) n) c
        rwa [htl] at h
      have hVz : ∀ w', Upd (Only rb) w5.drew w' → Sl w' w.heap.size 48 4 mvC (.slice AV out.length cV) out := fun w' u => (hV5.drew.upd u (fun k hk e => by have e : k = rb := e; obtain ⟨_, _, h, _⟩ := hQ6; exact hV5.ne h (by decide) k hk e)).lower hrbw
      have hUz : ∀ w', Upd (Only rb) w5.drew w' → Upd Nil w w' := fun w' u => hUd.trans u (fun x hx => .inr (by cases hx; exact hrbw))
      generalize b.take n = fr at *
      have f4 : (n : Int) ≤ (c : Int) := by omega
      have f5 : (0 : Int) ≤ (n : Int) := by omega
      have hres : refOk body number fr i = (decide (r5.done.1 = 0) && (decide (f = 0) && (decide ((hn : Int) = number) && made == fr))) ∧ refOk body number fr i = (bodyV body number).2 := ⟨hpk2.out.2.1, hpk2.out.2.2.1⟩
      obtain ⟨g1, g2⟩ := hres
      rw [g1] at g2
      clear g1
      generalize r5.done.1 = dn at *
      generalize r5.done.2 = r6 at *
      have g2H := Lib.hid g2
      clear g2 hcV hc5 hV5 hQ6 hQd hA5 hT htl hU7 hUd hU6 hV
      by_cases d1 : dn = 0
      case neg =>
        have d1b : (dn != 0) = true := by simp [d1]
        go_wp2_with fail
        refine wp_region_lex (Only rb) [0, 1, 2, 3, 4, 5, 6, 7, 8, 9, 10, 11, 12, 13, 14, 15, 16, 17, 18, 19, 20] (by kernel_rfl) (by kernel_rfl) rfl (by kernel_rfl) ?_
        simp only [inOrder, List.filterMap_cons, List.filterMap_nil, List.getElem?_cons_zero, List.getElem?_cons_succ]
        try simp only [Act.put, List.setIfInBounds_toArray, List.set_cons_zero, List.set_cons_succ]
        repeat
          first
          | (refine lex_pure (v := ?_) rfl rfl ?_ ?_
             rotate_left
             · intro w' hU'
               go_simp
               try with_reducible rfl
             try simp only [Act.put, List.setIfInBounds_toArray, List.set_cons_zero, List.set_cons_succ])
          | (refine lex_skip rfl ?_
             try simp only [Act.put, List.setIfInBounds_toArray, List.set_cons_zero, List.set_cons_succ])
        refine lex_fn (f := 58) (args := #[.pointer (some ⟨rb, 0, none⟩)]) rfl rfl (by go_simp) (qd2.mono ?_)
        rintro e w8 ⟨rfl, _, uz⟩
        refine ⟨_, rfl, uz, ?_⟩
        have ke1 := fun w' (u : Upd (Only rb) w8 w') => kc1 w' (uz.tr u)
        have ke2 := fun w' (u : Upd (Only rb) w8 w') => kc2 w' (uz.tr u)
        clear kc1 kc2
        try simp only [Act.put, List.setIfInBounds_toArray, List.set_cons_zero, List.set_cons_succ]
        repeat
          first
          | (refine lex_pure (v := ?_) rfl rfl ?_ ?_
             rotate_left
             · intro w' hU'
               go_simp
               try with_reducible rfl
             try simp only [Act.put, List.setIfInBounds_toArray, List.set_cons_zero, List.set_cons_succ])
          | (refine lex_skip rfl ?_
             try simp only [Act.put, List.setIfInBounds_toArray, List.set_cons_zero, List.set_cons_succ])
        refine lex_done ?_
        have hok : (bodyV body number).2 = false := by rw [← g2H.out]; simp [*]
        go_wp2_with fail
        rw [← hRH.out, hpk2.out.1, if_pos hok]
        exact ⟨_, rfl, Sl.nil _ _ _ _ _, hUz _ uz⟩
      by_cases d2 : f = 0
      case neg =>
        have d2b : (f != 0) = true := by simp [d2]
        subst d1
        go_wp2_with fail
        refine wp_region_lex (Only rb) [0, 1, 2, 3, 4, 5, 6, 7, 8, 9, 10, 11, 12, 13, 14, 15, 16, 17, 18, 19, 20] (by kernel_rfl) (by kernel_rfl) rfl (by kernel_rfl) ?_
        simp only [inOrder, List.filterMap_cons, List.filterMap_nil, List.getElem?_cons_zero, List.getElem?_cons_succ]
        try simp only [Act.put, List.setIfInBounds_toArray, List.set_cons_zero, List.set_cons_succ]
        repeat
          first
          | (refine lex_pure (v := ?_) rfl rfl ?_ ?_
             rotate_left
             · intro w' hU'
               go_simp
               try with_reducible rfl
             try simp only [Act.put, List.setIfInBounds_toArray, List.set_cons_zero, List.set_cons_succ])
          | (refine lex_skip rfl ?_
             try simp only [Act.put, List.setIfInBounds_toArray, List.set_cons_zero, List.set_cons_succ])
        refine lex_fn (f := 58) (args := #[.pointer (some ⟨rb, 0, none⟩)]) rfl rfl (by go_simp) (qd2.mono ?_)
        rintro e w8 ⟨rfl, _, uz⟩
        refine ⟨_, rfl, uz, ?_⟩
        have ke1 := fun w' (u : Upd (Only rb) w8 w') => kc1 w' (uz.tr u)
        have ke2 := fun w' (u : Upd (Only rb) w8 w') => kc2 w' (uz.tr u)
        clear kc1 kc2
        try simp only [Act.put, List.setIfInBounds_toArray, List.set_cons_zero, List.set_cons_succ]
        repeat
          first
          | (refine lex_pure (v := ?_) rfl rfl ?_ ?_
             rotate_left
             · intro w' hU'
               go_simp
               try with_reducible rfl
             try simp only [Act.put, List.setIfInBounds_toArray, List.set_cons_zero, List.set_cons_succ])
          | (refine lex_skip rfl ?_
             try simp only [Act.put, List.setIfInBounds_toArray, List.set_cons_zero, List.set_cons_succ])
        refine lex_done ?_
        have hok : (bodyV body number).2 = false := by rw [← g2H.out]; simp [*]
        go_wp2_with fail
        rw [← hRH.out, hpk2.out.1, if_pos hok]
        exact ⟨_, rfl, Sl.nil _ _ _ _ _, hUz _ uz⟩
      by_cases d3 : (hn : Int) = number
      case neg =>
        have d3b : ((hn : Int) != number) = true := by rw [bne_iff_ne]; exact d3
        subst d1 d2
        go_wp2_with fail
        refine wp_region_lex (Only rb) [0, 1, 2, 3, 4, 5, 6, 7, 8, 9, 10, 11, 12, 13, 14, 15, 16, 17, 18, 19, 20] (by kernel_rfl) (by kernel_rfl) rfl (by kernel_rfl) ?_
        simp only [inOrder, List.filterMap_cons, List.filterMap_nil, List.getElem?_cons_zero, List.getElem?_cons_succ]
        try simp only [Act.put, List.setIfInBounds_toArray, List.set_cons_zero, List.set_cons_succ]
        repeat
          first
          | (refine lex_pure (v := ?_) rfl rfl ?_ ?_
             rotate_left
             · intro w' hU'
               go_simp
               try with_reducible rfl
             try simp only [Act.put, List.setIfInBounds_toArray, List.set_cons_zero, List.set_cons_succ])
          | (refine lex_skip rfl ?_
             try simp only [Act.put, List.setIfInBounds_toArray, List.set_cons_zero, List.set_cons_succ])
        refine lex_fn (f := 58) (args := #[.pointer (some ⟨rb, 0, none⟩)]) rfl rfl (by go_simp) (qd2.mono ?_)
        rintro e w8 ⟨rfl, _, uz⟩
        refine ⟨_, rfl, uz, ?_⟩
        have ke1 := fun w' (u : Upd (Only rb) w8 w') => kc1 w' (uz.tr u)
        have ke2 := fun w' (u : Upd (Only rb) w8 w') => kc2 w' (uz.tr u)
        clear kc1 kc2
        try simp only [Act.put, List.setIfInBounds_toArray, List.set_cons_zero, List.set_cons_succ]
        repeat
          first
          | (refine lex_pure (v := ?_) rfl rfl ?_ ?_
             rotate_left
             · intro w' hU'
               go_simp
               try with_reducible rfl
             try simp only [Act.put, List.setIfInBounds_toArray, List.set_cons_zero, List.set_cons_succ])
          | (refine lex_skip rfl ?_
             try simp only [Act.put, List.setIfInBounds_toArray, List.set_cons_zero, List.set_cons_succ])
        refine lex_done ?_
        have hok : (bodyV body number).2 = false := by rw [← g2H.out]; simp [*]
        go_wp2_with fail
        rw [← hRH.out, hpk2.out.1, if_pos hok]
        exact ⟨_, rfl, Sl.nil _ _ _ _ _, hUz _ uz⟩
      have d3b : ((hn : Int) != number) = false := by rw [d3]; simp
      by_cases d4 : made = fr
      case neg =>
        have hns : ((⟨made.toArray⟩ : ByteArray) = ⟨fr.toArray⟩) = False := by simp [d4]
        have hns1 : ((⟨made.toArray⟩ : ByteArray).toList == (⟨fr.toArray⟩ : ByteArray).toList) = false := (Lib.bytes_beq_false_iff _ _).2 (by simp [d4])
        have hns2 : (made == fr) = false := beq_eq_false_iff_ne.mpr d4
        have hns3 : (made.toArray == fr.toArray) = false := by simp [d4]
        have hns4 : (made = fr) = False := eq_false d4
        subst d1 d2
        go_wp2_with fail
        refine wp_region_lex (Only rb) [0, 1, 2, 3, 4, 5, 6, 7, 8, 9, 10, 11, 12, 13, 14, 15, 16, 17, 18, 19, 20] (by kernel_rfl) (by kernel_rfl) rfl (by kernel_rfl) ?_
        simp only [inOrder, List.filterMap_cons, List.filterMap_nil, List.getElem?_cons_zero, List.getElem?_cons_succ]
        try simp only [Act.put, List.setIfInBounds_toArray, List.set_cons_zero, List.set_cons_succ]
        repeat
          first
          | (refine lex_pure (v := ?_) rfl rfl ?_ ?_
             rotate_left
             · intro w' hU'
               go_simp
               try with_reducible rfl
             try simp only [Act.put, List.setIfInBounds_toArray, List.set_cons_zero, List.set_cons_succ])
          | (refine lex_skip rfl ?_
             try simp only [Act.put, List.setIfInBounds_toArray, List.set_cons_zero, List.set_cons_succ])
        refine lex_fn (f := 58) (args := #[.pointer (some ⟨rb, 0, none⟩)]) rfl rfl (by go_simp) (qd2.mono ?_)
        rintro e w8 ⟨rfl, _, uz⟩
        refine ⟨_, rfl, uz, ?_⟩
        have ke1 := fun w' (u : Upd (Only rb) w8 w') => kc1 w' (uz.tr u)
        have ke2 := fun w' (u : Upd (Only rb) w8 w') => kc2 w' (uz.tr u)
        clear kc1 kc2
        try simp only [Act.put, List.setIfInBounds_toArray, List.set_cons_zero, List.set_cons_succ]
        repeat
          first
          | (refine lex_pure (v := ?_) rfl rfl ?_ ?_
             rotate_left
             · intro w' hU'
               go_simp
               try with_reducible rfl
             try simp only [Act.put, List.setIfInBounds_toArray, List.set_cons_zero, List.set_cons_succ])
          | (refine lex_skip rfl ?_
             try simp only [Act.put, List.setIfInBounds_toArray, List.set_cons_zero, List.set_cons_succ])
        refine lex_done ?_
        have hok : (bodyV body number).2 = false := by rw [← g2H.out]; simp [*]
        go_wp2_with fail
        rw [← hRH.out, hpk2.out.1, if_pos hok]
        exact ⟨_, rfl, Sl.nil _ _ _ _ _, hUz _ uz⟩
      subst d1 d2 d4
      go_wp2_with fail
      refine wp_region_lex (Only rb) [0, 1, 2, 3, 4, 5, 6, 7, 8, 9, 10, 11, 12, 13, 14, 15, 16, 17, 18, 19, 20] (by kernel_rfl) (by kernel_rfl) rfl (by kernel_rfl) ?_
      simp only [inOrder, List.filterMap_cons, List.filterMap_nil, List.getElem?_cons_zero, List.getElem?_cons_succ]
      try simp only [Act.put, List.setIfInBounds_toArray, List.set_cons_zero, List.set_cons_succ]
      repeat
        first
        | (refine lex_pure (v := ?_) rfl rfl ?_ ?_
           rotate_left
           · intro w' hU'
             go_simp
             try with_reducible rfl
           try simp only [Act.put, List.setIfInBounds_toArray, List.set_cons_zero, List.set_cons_succ])
        | (refine lex_skip rfl ?_
           try simp only [Act.put, List.setIfInBounds_toArray, List.set_cons_zero, List.set_cons_succ])
      refine lex_fn (f := 58) (args := #[.pointer (some ⟨rb, 0, none⟩)]) rfl rfl (by go_simp) (qd2.mono ?_)
      rintro e w8 ⟨rfl, _, uz⟩
      refine ⟨_, rfl, uz, ?_⟩
      have ke1 := fun w' (u : Upd (Only rb) w8 w') => kc1 w' (uz.tr u)
      have ke2 := fun w' (u : Upd (Only rb) w8 w') => kc2 w' (uz.tr u)
      clear kc1 kc2
      try simp only [Act.put, List.setIfInBounds_toArray, List.set_cons_zero, List.set_cons_succ]
      repeat
        first
        | (refine lex_pure (v := ?_) rfl rfl ?_ ?_
           rotate_left
           · intro w' hU'
             go_simp
             try with_reducible rfl
           try simp only [Act.put, List.setIfInBounds_toArray, List.set_cons_zero, List.set_cons_succ])
        | (refine lex_skip rfl ?_
           try simp only [Act.put, List.setIfInBounds_toArray, List.set_cons_zero, List.set_cons_succ])
      refine lex_done ?_
      have hok : (bodyV body number).2 = true := by rw [← g2H.out, d3]; simp
      go_wp2_with fail
      rw [← hRH.out, hpk2.out.1, if_neg (by rw [hok]; simp), ← hpk2.out.2.2.2 hok]
      exact ⟨_, rfl, hVz _ uz, hUz _ uz⟩
end Go.Proofs.Ythppheklnplljaa.Delta
