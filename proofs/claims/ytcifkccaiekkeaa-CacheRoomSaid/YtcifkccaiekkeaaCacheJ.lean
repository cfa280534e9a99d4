/-
  Whatever is put: never more keys than there is room, and the keys that were used last are there. Conditions: none.
-/
import Derived.Test.YtcifkccaiekkeaaCacheH
import Derived.Test.YtcifkccaiekkeaaCacheQ
import Derived.Test.YtcifkccaiekkeaaConv
namespace Go.Proofs.Ytcifkccaiekkeaa.Cache
open Go.RowKit Go.Proofs.Ytcifkccaiekkeaa.Base Go.Maps Go.Proofs.Ytcifkccaiekkeaa.Ints
set_option linter.unusedVariables false
set_option linter.unusedSimpArgs false
/-- A map of keys that were seen. -/
def MapB (w : World) (M : Nat) (q : List Key) : Prop :=
  ∃ D, w.ownsMap Try.prog 47 (plainElem (H := Nat) Try.prog 4) M q.length D ∧ Go.Maps.size D = q.length ∧ ∀ k, Wk k → D.atKey (kx k) (.lit (.bool false)) = .lit (.bool (decide (k ∈ q))) ∧ Go.Maps.has D (kx k) = decide (k ∈ q)
theorem zeroB (w : World) : (zeroValue 4).run Try.prog w = .ok (.bool false) w := by kernel_rfl
theorem bool_inv {P : Program} {e : TypeId} (he : P.underlying e = some .bool) {v : Value} {x : Bool} {ps : List MemPlace} (h : plainElem (H := Nat) P e v = some (.lit (.bool x), ps)) : v = .bool x := by
  unfold plainElem at h
  rw [he] at h
  cases v <;> simp at h
  rw [h.1]
section
variable {w w' : World} {M : Nat} {q : List Key}
theorem MapB.upd (h : MapB w M q) {S : Nat → Prop} (u : Upd S w w') (hn : ¬ S M) : MapB w' M q := by
  obtain ⟨D, ⟨es, clock, hb, r⟩, h2⟩ := h
  exact ⟨D, ⟨es, clock, u.blk hb hn, r⟩, h2⟩
theorem MapB.lt (h : MapB w M q) : M < w.heap.size := by
  obtain ⟨D, h1, _⟩ := h
  exact h1.lt
theorem MapB.new (w : World) : MapB (w.alloc (.map #[] 0)) w.heap.size [] :=
  ⟨.map [], World.ownsMap_made _ _ _ _, rfl, fun k hk => ⟨rfl, rfl⟩⟩
theorem MapB.look (h : MapB w M q) {k : Key} (hk : Wk k) : (Instr.lookup 51 (.map (some M)) (kv k) false).run Try.prog w = .ok (.bool (decide (k ∈ q))) w := by
  obtain ⟨D, h1, _, h3⟩ := h
  obtain ⟨v, ps, h4, h5⟩ := h1.lookup lawK Try.underlying51 (zeroB w) (plainElem_bool Try.underlying4 false) (keyK hk)
  rw [(h3 k hk).1] at h5
  rw [h4, bool_inv Try.underlying4 h5]
theorem MapB.put (h : MapB w M q) (hn : q.length < 1000000) {k : Key} (hk : Wk k) :
    ∃ w', (Instr.mapUpdate 51 (.map (some M)) (kv k) (.bool true)).run Try.prog w = .ok () w' ∧ MapB w' M (if k ∈ q then q else q ++ [k]) ∧ Upd (Only M) w w' := by
  obtain ⟨D, h1, h2, h3⟩ := h
  obtain ⟨w', h4, h5, h6⟩ := h1.update lawK Try.underlying51 (by unfold maxLen; omega) (keyK hk) (plainElem_bool Try.underlying4 true)
  have hsz : Go.Maps.size (D.put (kx k) (.lit (.bool true))) = (if k ∈ q then q else q ++ [k]).length := by
    rw [size_put (h1.tidy lawK), h2, (h3 k hk).2]
    by_cases e : k ∈ q <;> simp [e]
  refine ⟨w', h4, ⟨_, hsz ▸ fitted h5, hsz, fun j hj => ?_⟩, ⟨h6.os, h6.output, h6.size, fun k hk hn => h6.block k hk (fun e => hn (by injection e))⟩⟩
  have hin : decide (j ∈ (if k ∈ q then q else q ++ [k])) = (decide (j = k) || decide (j ∈ q)) := by
    by_cases e : k ∈ q
    · rw [if_pos e]
      by_cases e2 : j = k
      · subst e2
        simp [e]
      · simp [e2]
    · rw [if_neg e]
      simp [Bool.or_comm]
  rw [hin]
  by_cases e : j = k
  · subst e
    rw [atKey_put_same h1.isMap (isK j), has_put_same h1.isMap (isK j)]
    exact ⟨by simp, by simp⟩
  · rw [atKey_put_other (fun e2 => e (injK hj hk e2)), has_put_other (fun e2 => e (injK hj hk e2))]
    simp only [e, decide_false, Bool.false_or]
    exact h3 j hj
theorem MapB.len (h : MapB w M q) (ty : TypeId) : (Builtin.len_ #[51] ty #[.map (some M)]).run Try.prog w = .ok (.int .i64 (q.length : Int)) w := by
  obtain ⟨D, h1, h2, _⟩ := h
  rw [h1.len Try.underlying51 ty, h2]
end
def tx (i : Nat) : ByteArray := ⟨#[UInt8.ofNat i]⟩
/-- The puttings, the last one first. -/
def puts (l : List Key) : Nat → List (Key × ByteArray)
  | 0 => []
  | i + 1 => if h : i < l.length then (l[i], tx i) :: puts l i else puts l i
theorem puts_succ {l : List Key} {i : Nat} (h : i < l.length) : puts l (i + 1) = (l[i], tx i) :: puts l i := by
  show (if h : i < l.length then (l[i], tx i) :: puts l i else puts l i) = _
  rw [dif_pos h]
theorem cv (w : World) (i : Nat) (hi : i < 256) (A : Option Addr) (c : Nat) (h : Arg w A 1 bc [UInt8.ofNat i]) : (convert 50 9 (.slice A 1 c)).run Try.prog w = .ok (.string (tx i)) w := run_bstr (P := Try.prog) Try.underlying50 Try.underlying5 Try.underlying9 h c
theorem lit_arg (w : World) (i : Nat) (hi : i < 256) : Arg (w.alloc (.cells #[.int .u8 (i : Int)] 5)) (some ⟨w.heap.size, 0, none⟩) 1 bc [UInt8.ofNat i] := by
  refine arg_lit bc_len (blk_new _ _) ?_
  simp [bc]
  omega
set_option maxHeartbeats 2000000 in
set_option maxRecDepth 100000 in
theorem roomC (r : Nat) (hr : r < 256) (A : Option Addr) (cA : Nat) (l : List Key) (w : World) (hA : Arg w A 2 kc2 l) (hw : ∀ k ∈ l, Wk k) (hl : l.length ≤ maxLen) :
    Calls Try.prog 5 #[.int .u8 (r : Int), .slice A l.length cA] w (RetB true w) := by
  have hlH := Lib.hid hl
  clear hl
  go_enter Try.func5, Try.ntmps5
  go_wp2_with fail
  refine (fixedC w).mono ?_
  rintro e w1 ⟨rfl, u1⟩
  by_cases h200 : 200 < (l.length : Int)
  · go_wp2_with fail
    go_ret
    exact ⟨rfl, u1⟩
  have h201 : l.length ≤ 200 := by omega
  clear h200
  go_wp2_with fail
  obtain ⟨n0, hn0, hn8⟩ : ∃ n0 : Nat, 1 + (r : Int) % 9 = ((n0 + 1 : Nat) : Int) ∧ n0 ≤ 8 := ⟨r % 9, by omega, by omega⟩
  rw [hn0]
  generalize hN : ((n0 + 1 : Nat) : Int) = N
  have hNn : N.toNat = n0 + 1 := by omega
  have hNH := Lib.hid (And.intro hN hNn)
  clear hN hNn hn0
  refine (Ca.new N (by have := hNH.out.1; omega) w1).mono ?_
  rintro e w2 ⟨c, rfl, x2, u2⟩
  go_wp2_with fail
  go_loopw [26] (fun s26 wr => ∃ i : Nat, i ≤ l.length ∧ s26 = .int .i64 (i : Int) ∧ Ca (Bt w1.heap.size wr.heap.size) wr c N (rowsR (n0 + 1) (puts l i)) 0 0 ∧ (rowsR (n0 + 1) (puts l i)).length ≤ n0 + 1 ∧ Upd Nil w1 wr) (fun s26 _ => l.length - (intOf s26).toNat)
  case atStart => exact ⟨0, by omega, rfl, x2, by simp [puts, rowsR], u2⟩
  case round =>
    clear x2 u2
    obtain ⟨i, hi, rfl, x, hrl, hU⟩ := hrel
    by_cases hlt : i < l.length
    · have hwk := hw _ (List.getElem_mem hlt)
      obtain ⟨gA, oA, rfl, _, y0, y1⟩ := kc2_cell ((hA.upd u1).upd hU) hlt
      have hps := puts_succ hlt
      have u3 := ((Upd.refl Nil wr).alloc (.cells #[.int .i64 l[i].1, .int .i64 l[i].2] 47)).alloc (.cells #[.int .u8 (i : Int)] 5)
      have hcv := cv _ i (by omega) _ 1 (lit_arg (wr.alloc (.cells #[.int .i64 l[i].1, .int .i64 l[i].2] 47)) i (by omega))
      rw [show (wr.alloc (.cells #[.int .i64 l[i].1, .int .i64 l[i].2] 47)).heap.size = wr.heap.size + 1 by simp] at hcv
      generalize l[i] = k at *
      have hpsH := Lib.hid hps
      clear hps
      generalize hrr : rowsR (n0 + 1) (puts l i) = rows at *
      have hrrH := Lib.hid hrr
      clear hrr
      have hw8 : (i : Int) % 256 = i := by omega
      have hu8 : IntKind.u8.wrap (i : Int) = i := by rw [show IntKind.u8.wrap (i : Int) = (i : Int) % 256 from rfl]; omega
      go_wp2_with fail
      clear y0 y1 hcv
      generalize (wr.alloc (.cells #[.int .i64 k.1, .int .i64 k.2] 47)).alloc (.cells #[.int .u8 (i : Int)] 5) = w3 at *
      have hs3 := u3.size
      have hU3 := hU.tr u3
      have x3 := (x.upd0 u3).mono (F' := Bt w1.heap.size w3.heap.size) (fun y hy => ⟨hy.1, by have := hy.2; omega⟩)
      refine (x3.putB hU3.size (by rw [hNH.out.2]; exact hrl) k hwk (tx i)).mono ?_
      rintro e w5 ⟨rfl, x5, u5⟩
      have hU5 := hU3.trans u5 (fun y hy => .inr hy.1)
      have hrow : (putK N.toNat rows k (tx i)).1 = rowsR (n0 + 1) (puts l (i + 1)) := by
        rw [hpsH.out, hNH.out.2, ← hrrH.out]
        rfl
      have hpl : (putK N.toNat rows k (tx i)).1.length ≤ n0 + 1 := by rw [hNH.out.2]; exact put_len hrl k _
      generalize (putK N.toNat rows k (tx i)).1 = rows5 at *
      have hrowH := Lib.hid hrow
      clear hrow
      go_wp2_with fail
      refine x5.len.mono ?_
      rintro e w6 ⟨rfl, u6⟩
      have hs6 := u6.size
      have x6 := (x5.upd0 u6).mono (F' := Bt w1.heap.size w6.heap.size) (fun y hy => ⟨hy.1, by have := hy.2; omega⟩)
      have hng : ¬ N < (rows5.length : Int) := by
        have := hNH.out.1
        omega
      go_wp2_with fail
      go_roundw
      case measure => simp [intOf]; omega
      case rel => exact ⟨i + 1, by omega, by go_num, by rw [← hrowH.out]; exact x6, by rw [← hrowH.out]; exact hpl, hU5.tr u6⟩
    · obtain rfl : i = l.length := by omega
      clear hi hlt
      obtain ⟨w2b, rfl⟩ : ∃ x, x = wr := ⟨wr, rfl⟩
      have hF1 : ∀ y, Bt w1.heap.size w2b.heap.size y → y < w2b.heap.size := fun y hy => hy.2
      generalize Bt w1.heap.size w2b.heap.size = F at *
      have hbk := Back.start n0 (puts l l.length)
      have hmm := @run_makeMap Try.prog
      have hmp := MapB.new w2b
      have um := (Upd.refl Nil w2b).alloc (.map #[] 0)
      have hMF : ¬ F w2b.heap.size := fun e => Nat.lt_irrefl _ (hF1 _ e)
      have hMl : w1.heap.size ≤ w2b.heap.size := hU.size
      have hwl : wrap64 ((l.length : Int) - 1) = (l.length : Int) - 1 := wr2 (by omega)
      go_wp2_with fail
      clear hmm
      have x3 := x.upd0 um
      have hU3 := hU.tr um
      generalize w2b.alloc (.map #[] 0) = w3 at *
      generalize hMg : w2b.heap.size = M at *
      clear hMg x hU um hF1
      generalize hrr : rowsR (n0 + 1) (puts l l.length) = rows at *
      have hrrH := Lib.hid hrr
      clear hrr
      go_loopw [10] (fun s10 wr => ∃ (j : Nat) (pre : List (Key × ByteArray)), j ≤ l.length ∧ s10 = .int .i64 ((j : Int) - 1) ∧ Back n0 (puts l l.length) (puts l j) pre ∧ pre.length ≤ n0 + 1 ∧ MapB wr M (Keys pre) ∧ Ca F wr c N rows 0 0 ∧ Upd Nil w1 wr) (fun s10 _ => (intOf s10 + 1).toNat)
      case atStart => exact ⟨l.length, [], by omega, rfl, hbk, by simp, hmp, x3, hU3⟩
      case round =>
        clear hbk hmp x3 hU3
        obtain ⟨j, pre, hj, rfl, hbk, hpl, hmp, x, hU⟩ := hrel
        have hml := hmp.len
        have hkl : (Keys pre).length = pre.length := by unfold Keys; simp
        rw [hkl] at hml
        by_cases hgo : 0 < j ∧ pre.length < n0 + 1
        · obtain ⟨hj0, hpl2⟩ := hgo
          obtain ⟨i, rfl⟩ : ∃ i, j = i + 1 := ⟨j - 1, by omega⟩
          have hlt : i < l.length := by omega
          have hwk := hw _ (List.getElem_mem hlt)
          have hps := puts_succ hlt
          rw [hps] at hbk
          obtain ⟨gA, oA, hAe, _, y0, y1⟩ := kc2_cell ((hA.upd u1).upd hU) hlt
          generalize hke : l[i] = k at *
          have hkeH := Lib.hid hke
          clear hke
          have hpsH := Lib.hid hps
          clear hps
          have hji : ((i + 1 : Nat) : Int) - 1 = (i : Int) := by omega
          rw [hji]
          have hlk := hmp.look hwk
          have hlN : (pre.length : Int) < N := by have := hNH.out.1; omega
          by_cases hin : k ∈ Keys pre
          · obtain ⟨w4, hrun, hmp4, u4⟩ := hmp.put (by rw [hkl]; omega) hwk
            rw [if_pos hin] at hmp4
            simp only [hin, decide_true] at hlk
            subst hAe
            unfold kv at hlk hrun
            clear hji
            go_wp2_with fail
            go_roundw
            case measure => simp [intOf]
            case rel => exact ⟨i, pre, by omega, rfl, hbk.same hin, hpl, hmp4, x.upd u4 (fun y hy e => hMF (by cases e; exact hy)), hU.trans u4 (fun y hy => .inr (by cases hy; exact hMl))⟩
          · simp only [hin, decide_false] at hlk
            have hfd := hbk.find hin hpl2
            rw [hrrH.out] at hfd
            subst hAe
            unfold kv at hlk
            clear hji
            have hfH := Lib.hid hfd
            clear hfd
            go_wp2_with fail
            refine (x.peek k hwk).mono ?_
            rw [hfH.out]
            simp only [textOf, Option.isSome]
            rintro e w5 ⟨rfl, u5⟩
            have u6 := u5.alloc (.cells #[.int .u8 (i : Int)] 5)
            have hcv := cv _ i (by omega) _ 1 (lit_arg w5 i (by omega))
            have hmp6 := hmp.upd u6 (fun h => h)
            obtain ⟨w4, hrun, hmp4, u4⟩ := hmp6.put (by rw [hkl]; omega) hwk
            rw [if_neg hin] at hmp4
            unfold kv at hrun
            have hu8 : IntKind.u8.wrap (i : Int) = i := by rw [show IntKind.u8.wrap (i : Int) = (i : Int) % 256 from rfl]; omega
            have hw8 : (i : Int) % 256 = i := by omega
            obtain ⟨gA2, oA2, hA2e, _, y0, y1⟩ := kc2_cell ((hA.upd u1).upd (hU.tr u6)) hlt
            rw [hkeH.out] at y0 y1
            injection hA2e with hA2e
            injection hA2e with e1 e2
            subst e1 e2
            have u6' := (hU.tr u6).trans u4 (fun y hy => .inr (by cases hy; exact hMl))
            have x6 := (x.upd0 u6).upd u4 (fun y hy e => hMF (by cases e; exact hy))
            go_wp2_with fail
            go_roundw
            case measure => simp [intOf]
            case rel => exact ⟨i, pre ++ [(k, tx i)], by omega, by go_num, hbk.more hin, by simp; omega, by unfold Keys at *; simpa using hmp4, x6, u6'⟩
        · have hfull := hbk.full (n := n0) (by
            by_cases h0 : 0 < j
            · exact .inl (by omega)
            · obtain rfl : j = 0 := by omega
              exact .inr ⟨rfl, hpl⟩)
          rw [hrrH.out] at hfull
          by_cases h0 : 0 < j
          · have hp : pre.length = n0 + 1 := by omega
            have hge : (0 : Int) ≤ (j : Int) - 1 := by omega
            have hnl : ¬ (pre.length : Int) < N := by have := hNH.out.1; omega
            have hge2 : ¬ ((j : Int) - 1 < 0) := by omega
            go_wp2_with fail
            refine x.len.mono ?_
            rintro e w5 ⟨rfl, u5⟩
            have hml5 := (hmp.upd u5 (fun h => h)).len
            rw [hkl] at hml5
            rw [hfull]
            go_wp2_with fail
            go_ret
            exact ⟨rfl, u1.tr (hU.tr u5)⟩
          · obtain rfl : j = 0 := by omega
            go_wp2_with fail
            refine x.len.mono ?_
            rintro e w5 ⟨rfl, u5⟩
            have hml5 := (hmp.upd u5 (fun h => h)).len
            rw [hkl] at hml5
            rw [hfull]
            go_wp2_with fail
            go_ret
            exact ⟨rfl, u1.tr (hU.tr u5)⟩
end Go.Proofs.Ytcifkccaiekkeaa.Cache
