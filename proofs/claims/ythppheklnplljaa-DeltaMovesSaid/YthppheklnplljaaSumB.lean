/-
  The walks of sum's table, On, Of, and of the reference's Of. Conditions: each lemma's own.
-/
import Derived.Test.YthppheklnplljaaOnce
import Derived.Test.YthppheklnplljaaConv
import Derived.Test.YthppheklnplljaaSumP
namespace Go.Proofs.Ythppheklnplljaa.Sum
open Go.RowKit Go.Proofs.Ythppheklnplljaa.Base Go.Proofs.Ythppheklnplljaa.Once
set_option linter.unusedVariables false
/-- The table's block, filled to i. -/
def Filled (b i : Nat) (w : World) : Prop := ∃ cs : Array Value, w.heap[b]? = some (.cells cs 129 (0, 0)) ∧ cs.size = 259 ∧ ∀ j, j < i → cs[3 + j]? = some (.int .u32 (tab j : Nat))
theorem filled_stays (b i : Nat) : Stays b (Filled b i) := by
  refine ⟨fun w u ⟨cs, h1, h2, h3⟩ => ⟨_, blk_put h1 0 u rfl, by simpa using h2, fun j hj => ?_⟩, fun w u ⟨cs, h1, h2, h3⟩ => ⟨_, blk_put h1 1 u rfl, by simpa using h2, fun j hj => ?_⟩, fun w ⟨cs, h1, h2, h3⟩ => ⟨cs, h1, h2, h3⟩⟩
  · rw [Array.getElem?_setIfInBounds_ne (by omega)]; exact h3 j hj
  · rw [Array.getElem?_setIfInBounds_ne (by omega)]; exact h3 j hj
theorem tab_step {i v k : Nat} (hk : k < 8) (h : bsN (8 - k) v = tab i) : bsN (8 - (k + 1)) (bs v) = tab i := by
  rw [← h, show 8 - k = (8 - (k + 1)) + 1 by omega]
  rfl
set_option maxHeartbeats 4000000 in
set_option maxRecDepth 100000 in
theorem make (b : Nat) (cs0 : Array Value) (w : World) (h : w.heap[b]? = some (.cells cs0 129 (0, 0))) (hs : cs0.size = 259) : Calls Try.prog 79 #[.pointer (some ⟨b, 0, none⟩)] w (Kept b (Filled b 256) w) := by
  have hb := blk_lt h
  go_enter Try.func79, Try.ntmps79
  go_wp2_with fail
  go_loopw [5, 10] (fun s5 s10 wr => ∃ (i : Nat) (cs : Array Value), i ≤ 256 ∧ s5 = .int .i64 i ∧ wr.heap[b]? = some (.cells cs 129 (0, 0)) ∧ cs.size = 259 ∧ (∀ j, j < i → cs[3 + j]? = some (.int .u32 (tab j : Nat))) ∧ cs[0]? = cs0[0]? ∧ cs[1]? = cs0[1]? ∧ Upd (Only b) w wr) (fun s5 _ _ => 256 - (intOf s5).toNat)
  case atStart => exact ⟨0, cs0, by omega, rfl, h, hs, fun j hj => by omega, rfl, rfl, Upd.refl _ _⟩
  case round =>
    obtain ⟨i, cs, hi, rfl, hc, hcs, hrow, hk0, hk1, hU⟩ := hrel
    have hcH := Lib.hid (And.intro hcs (And.intro hrow (And.intro hk0 hk1)))
    have hhH := Lib.hid h
    clear hcs hrow hk0 hk1 hs h
    by_cases hlt : i < 256
    · have hltI : (i : Int) < 256 := by omega
      go_wp2_with fail
      obtain ⟨wo, rfl⟩ : ∃ wo : World, wo = wr := ⟨_, rfl⟩
      go_loopw [3, 10] (fun s3 s10 wi => ∃ (k v : Nat), k ≤ 8 ∧ s10 = .int .i64 k ∧ s3 = .int .u32 v ∧ bsN (8 - k) v = tab i ∧ v < 4294967296 ∧ wi = wo) (fun _ s10 _ => 8 - (intOf s10).toNat)
      case atStart => exact ⟨0, i, by omega, rfl, by simp, rfl, by omega, rfl⟩
      case round =>
        obtain ⟨k, v, hk, rfl, rfl, hbs, hv, rfl⟩ := hrel
        by_cases hk8 : k < 8
        · have hst := Lib.hid (tab_step hk8 hbs)
          have hbl := Lib.hid (bs_lt hv)
          by_cases hm : v % 2 = 1
          · have hand : bits .and .u32 (v : Int) 1 = 1 := by rw [and_u32 hv, hm]; rfl
            have hbv : Hid (bits .xor .u32 ((v : Int) / 2) 2197175160 = (bs v : Int)) := by
              show _ = _
              rw [show ((v : Int) / 2) = ((v / 2 : Nat) : Int) by simp, show (2197175160 : Int) = ((2197175160 : Nat) : Int) from rfl, xor_u32 (by omega) (by decide)]
              unfold bs
              rw [if_pos hm]
            clear hv hbs hm
            go_wp2_with fail
            go_roundw
            case measure => simp [intOf]; omega
            case rel => exact ⟨k + 1, bs v, by omega, by simp, by rw [hbv.out], hst.out, hbl.out, trivial⟩
          · have hand : bits .and .u32 (v : Int) 1 = 0 := by rw [and_u32 hv, show v % 2 = 0 by omega]; rfl
            have hbv : Hid ((v : Int) / 2 = (bs v : Int)) := by
              show _ = _
              unfold bs
              rw [if_neg hm]
              simp
            clear hv hbs hm
            go_wp2_with fail
            go_roundw
            case measure => simp [intOf]; omega
            case rel => exact ⟨k + 1, bs v, by omega, by simp, by rw [hbv.out], hst.out, hbl.out, trivial⟩
        · have hk8' : k = 8 := by omega
          have hv8 : v = tab i := by subst hk8'; exact hbs
          subst hv8
          clear hbs hv
          have hcell : (wr).cell? ⟨b, 3 + i, none⟩ = cs[3 + i]? := blk_cell hc _
          obtain ⟨x, hx⟩ : ∃ x, cs[3 + i]? = some x := ⟨_, Array.getElem?_eq_getElem (by rw [hcH.out.1]; omega)⟩
          rw [hx] at hcell
          have hfz := blk_frozen hc (3 + i)
          have hput : Hid ((wr.setCell ⟨b, 3 + i, none⟩ (.int .u32 (tab i : Nat))).heap[b]? = some (.cells (cs.setIfInBounds (3 + i) (.int .u32 (tab i : Nat))) 129 (0, 0))) := blk_put hc _ _ rfl
          have hxH := Lib.hid hx
          clear hx
          go_wp2_with fail
          go_roundw
          case measure => simp [intOf]; omega
          case rel =>
            refine ⟨i + 1, _, by omega, by simp, hput.out, by simpa using hcH.out.1, fun j hj => ?_, ?_, ?_, hU.set1 _⟩
            · by_cases e : j = i
              · subst e
                rw [Array.getElem?_setIfInBounds_self_of_lt (by rw [hcH.out.1]; omega)]
              · rw [Array.getElem?_setIfInBounds_ne (by omega)]
                exact hcH.out.2.1 j (by omega)
            · rw [Array.getElem?_setIfInBounds_ne (by omega)]; exact hcH.out.2.2.1
            · rw [Array.getElem?_setIfInBounds_ne (by omega)]; exact hcH.out.2.2.2
    · have hi2 : i = 256 := by omega
      subst hi2
      go_wp2_with fail
      go_end0
      refine ⟨rfl, ⟨cs, hc, hcH.out.1, hcH.out.2.1⟩, hU, ?_, ?_, ?_, ?_⟩
      · rw [blk_cell hc, blk_cell hhH.out]; exact hcH.out.2.2.1
      · rw [blk_cell hc, blk_cell hhH.out]; exact hcH.out.2.2.2
      · rw [blk_frozen hc, blk_frozen hhH.out]
      · rw [blk_frozen hc, blk_frozen hhH.out]
theorem crc_take {v : Nat} {l : List UInt8} {k : Nat} (h : k < l.length) : crc v (l.take (k + 1)) = stp (crc v (l.take k)) l[k] := by
  unfold crc
  rw [List.take_succ_eq_append_getElem h, List.foldl_append]
  rfl
def OnR (b n : Nat) (w : World) (e : Ending) (w' : World) : Prop := e = .returned (.int .u32 (n : Nat)) ∧ Upd (Only b) w w'
set_option maxHeartbeats 4000000 in
set_option maxRecDepth 100000 in
theorem on (b : Nat) (cs0 : Array Value) (A : Option Addr) (c v : Nat) (l : List UInt8) (w : World) (h : w.heap[b]? = some (.cells cs0 129 (0, 0))) (hs : cs0.size = 259) (h0 : cs0[0]? = some (.int .u32 0)) (h1 : cs0[1]? = some (.int .i32 0))
    (hA : Arg w A 1 bc l) (hAb : ∀ g o, A = some ⟨g, o, none⟩ → l ≠ [] → g ≠ b) (hv : v < 4294967296) (hl : l.length ≤ maxLen) :
    Calls Try.prog 77 #[.pointer (some ⟨b, 0, none⟩), .int .u32 v, .slice A l.length c] w (OnR b (crc v l) w) := by
  unfold maxLen at hl
  have hdo := do_first b 79 (Filled b 256) (filled_stays b 256) w ((blk_cell h 0).trans h0) ((blk_cell h 1).trans h1) (blk_frozen h 0) (blk_frozen h 1) (fun w => by go_simp)
    (make b _ _ (blk_put h 1 _ rfl) (by simpa using hs))
  have hvH := Lib.hid hv
  have hsH := Lib.hid (And.intro h (And.intro hs (And.intro h0 h1)))
  clear hv hs h h0 h1
  go_enter Try.func77, Try.ntmps77
  go_wp2_with (go_at_call 78; refine hdo.mono ?_; rintro e w1 ⟨rfl, ⟨cs, hc, hcs, hrow⟩, hU⟩)
  have hA1 : Arg w1 A 1 bc l := by
    rcases hA with hA | ⟨g, o, rfl, hg, hx⟩
    · exact .inl hA
    · by_cases hl0 : l = []
      · exact .inl hl0
      · have hgb := hAb g o rfl hl0
        exact .inr ⟨g, o, rfl, Nat.lt_of_lt_of_le hg hU.size, fun i hi j hj => (hU.cell (p := ⟨g, o + i * 1 + j, none⟩) hg hgb).trans (hx i hi j hj)⟩
  have hrH := Lib.hid hrow
  clear hrow hdo hA
  go_loopw [1, 17] (fun s1 s17 wr => ∃ k : Nat, k ≤ l.length ∧ s17 = .int .i64 k ∧ s1 = .int .u32 (crc v (l.take k) : Nat) ∧ wr = w1) (fun _ s17 _ => l.length - (intOf s17).toNat)
  case atStart => exact ⟨0, Nat.zero_le _, rfl, rfl, rfl⟩
  case round =>
    obtain ⟨k, hk, rfl, rfl, rfl⟩ := hrel
    by_cases hlt : k < l.length
    · obtain ⟨g, o, rfl, hg, qx⟩ := hA1.resolve_left (fun e => by rw [e] at hlt; simp at hlt)
      have x0 := qx k hlt 0 (by omega)
      have ht := Lib.hid (crc_take (v := v) hlt)
      have hvk := Lib.hid (crc_lt hvH.out (l.take k))
      have hy := l[k].toNat_lt
      have hst : Hid (∀ x, stp x l[k] = (x / 256) ^^^ tab ((x % 256) ^^^ l[k].toNat)) := fun x => rfl
      have hyH : Hid (l[k].toNat < 256) := hy
      clear qx hy
      simp only [bc, List.getElem?_cons_zero, Nat.add_zero, Nat.mul_one] at x0
      generalize l[k] = cc at *
      generalize hy2 : cc.toNat = y at *
      clear hy2
      generalize crc v (l.take k) = x at *
      have hxi : ((x : Int) % 256) = ((x % 256 : Nat) : Int) := by simp
      have hix : bits .xor .u8 ((x : Int) % 256) (y : Int) = (((x % 256) ^^^ y : Nat) : Int) := by rw [hxi]; exact xor_u8 (Nat.mod_lt _ (by omega)) hyH.out
      have hlt2 : ((x % 256) ^^^ y) < 256 := Nat.xor_lt_two_pow (n := 8) (Nat.mod_lt _ (by omega)) hyH.out
      have hst2 := Lib.hid (hst.out x)
      have htl : tab ((x % 256) ^^^ y) < 4294967296 := bsN_lt 8 (by omega)
      have hcell : wr.cell? ⟨b, 3 + ((x % 256) ^^^ y), none⟩ = some (.int .u32 (tab ((x % 256) ^^^ y) : Nat)) := (blk_cell hc _).trans (hrH.out _ hlt2)
      have hxr : Hid (bits .xor .u32 ((x : Int) / 256) (tab ((x % 256) ^^^ y) : Int) = ((x / 256 ^^^ tab ((x % 256) ^^^ y) : Nat) : Int)) := by
        show _ = _
        rw [show ((x : Int) / 256) = ((x / 256 : Nat) : Int) by simp]
        exact xor_u32 (by have := hvk.out; omega) htl
      clear hxi htl hst
      generalize hi : (x % 256) ^^^ y = ix at *
      clear hi
      go_wp2_with fail
      go_roundw
      case measure => simp [intOf]; omega
      case rel => exact ⟨k + 1, by omega, by simp, by rw [hxr.out, ht.out, hst2.out], trivial⟩
    · obtain rfl : k = l.length := by omega
      go_wp2_with fail
      go_ret
      rw [List.take_length]
      exact ⟨rfl, hU⟩
theorem zc : Try.zeroCells129.size = 259 ∧ Try.zeroCells129[0]? = some (.int .u32 0) ∧ Try.zeroCells129[1]? = some (.int .i32 0) := by
  refine ⟨?_, ?_, ?_⟩ <;> kernel_rfl
def SumR (n : Nat) (w : World) (e : Ending) (w' : World) : Prop := e = .returned (.int .u32 (n : Nat)) ∧ Upd Nil w w'
set_option maxHeartbeats 4000000 in
set_option maxRecDepth 100000 in
theorem On (A : Option Addr) (c v : Nat) (l : List UInt8) (w : World) (hA : Arg w A 1 bc l) (hv : v < 4294967296) (hl : l.length ≤ maxLen) :
    Calls Try.prog 70 #[.int .u32 v, .slice A l.length c] w (SumR (onL v l) w) := by
  have hsg : IntKind.u32.signed = false := rfl
  have hon := on w.heap.size Try.zeroCells129 A c (nt v) l (w.alloc (.cells Try.zeroCells129 129)) (blk_new _ _) zc.1 zc.2.1 zc.2.2 (hA.upd ((Upd.refl _ _).alloc _)) (fun g o e hl0 => by
    rcases hA with hA | ⟨g', o', e', hg, _⟩
    · exact absurd hA hl0
    · rw [e] at e'
      injection e' with e'
      injection e' with e1
      omega) (nt_lt v) hl
  have hn1 := not_u32 hv
  have hn2 := Lib.hid (not_u32 (crc_lt (nt_lt v) l))
  have hU : Upd Nil w (w.alloc (.cells Try.zeroCells129 129)) := (Upd.refl _ _).alloc _
  clear hv
  go_enter Try.func70, Try.ntmps70
  go_wp2_with fail
  refine hon.mono ?_
  rintro e w1 ⟨rfl, hU1⟩
  go_wp2_with fail
  go_ret
  exact ⟨by show Ending.returned (.int .u32 _) = _; rw [hn2.out]; rfl, hU.newOnly hU1 (Nat.le_refl _)⟩
set_option maxHeartbeats 4000000 in
set_option maxRecDepth 100000 in
theorem Of (A : Option Addr) (c : Nat) (l : List UInt8) (w : World) (hA : Arg w A 1 bc l) (hl : l.length ≤ maxLen) :
    Calls Try.prog 46 #[.slice A l.length c] w (SumR (onL 0 l) w) := by
  have hon := On A c 0 l w hA (by omega) hl
  go_enter Try.func46, Try.ntmps46
  go_wp2_with (go_at_call 70; refine hon.mono ?_; rintro e w1 ⟨rfl, hU1⟩)
  go_ret
  exact ⟨rfl, hU1⟩
theorem rbN_step {v c k n : Nat} (hk : k < 8) (h : rbN (8 - k) v c = n) : rbN (8 - (k + 1)) (rb v c) (c / 2) = n := by
  rw [← h, show 8 - k = (8 - (k + 1)) + 1 by omega]
  rfl
set_option maxHeartbeats 8000000 in
set_option maxRecDepth 100000 in
theorem rOf (A : Option Addr) (c : Nat) (l : List UInt8) (w : World) (hA : Arg w A 1 bc l) (hl : l.length ≤ maxLen) :
    Calls Try.prog 48 #[.slice A l.length c] w (SumR (onL 0 l) w) := by
  unfold maxLen at hl
  have hsg : IntKind.u32.signed = false := rfl
  go_enter Try.func48, Try.ntmps48
  go_wp2_with fail
  go_loopw [3, 5, 6, 11] (fun s3 s5 s6 s11 wr => ∃ k : Nat, k ≤ l.length ∧ s11 = .int .i64 k ∧ s3 = .int .u32 (crc 4294967295 (l.take k) : Nat) ∧ wr = w) (fun _ _ _ s11 _ => l.length - (intOf s11).toNat)
  case atStart => exact ⟨0, Nat.zero_le _, rfl, rfl, rfl⟩
  case round =>
    obtain ⟨k, hk, rfl, rfl, rfl⟩ := hrel
    by_cases hlt : k < l.length
    · obtain ⟨g, o, rfl, hg, qx⟩ := hA.resolve_left (fun e => by rw [e] at hlt; simp at hlt)
      have x0 := qx k hlt 0 (by omega)
      have ht := Lib.hid (crc_take (v := 4294967295) hlt)
      have hvk := crc_lt (v := 4294967295) (by decide) (l.take k)
      have hr8 := rb8 (crc 4294967295 (l.take k)) l[k]
      have hy := l[k].toNat_lt
      clear qx
      simp only [bc, List.getElem?_cons_zero, Nat.add_zero, Nat.mul_one] at x0
      generalize stp (crc 4294967295 (l.take k)) l[k] = tgt at *
      generalize l[k].toNat = y at *
      generalize crc 4294967295 (l.take k) = x at *
      have hxH := Lib.hid (And.intro hvk (And.intro hr8 hy))
      clear hvk hr8 hy
      go_wp2_with fail
      obtain ⟨wo, rfl⟩ : ∃ wo : World, wo = wr := ⟨_, rfl⟩
      go_loopw [3, 5, 6] (fun s3 s5 s6 wi => ∃ (j v cc : Nat), j ≤ 8 ∧ s6 = .int .i64 j ∧ s3 = .int .u32 v ∧ s5 = .int .u8 cc ∧ rbN (8 - j) v cc = tgt ∧ v < 4294967296 ∧ cc < 256 ∧ wi = wo) (fun _ _ s6 _ => 8 - (intOf s6).toNat)
      case atStart => exact ⟨0, x, y, by omega, rfl, rfl, rfl, hxH.out.2.1, hxH.out.1, hxH.out.2.2, rfl⟩
      case round =>
        obtain ⟨j, v, cc, hj, rfl, rfl, rfl, hrb, hv, hcc, rfl⟩ := hrel
        by_cases hj8 : j < 8
        · have hst := Lib.hid (rbN_step hj8 hrb)
          have hvl : Hid (rb v cc < 4294967296) := by
            show _ < _
            unfold rb
            split
            · exact xor_lt (by omega) (by decide)
            · omega
          have hcl : Hid (cc / 2 < 256) := by show _ < _; omega
          have hcd : Hid (((cc : Int) / 2) = ((cc / 2 : Nat) : Int)) := by show _ = _; simp
          have hcc2 : (cc : Int) < 256 := by omega
          have hvm : ((v : Int) % 2) = ((v % 2 : Nat) : Int) := by simp
          have hcm : ((cc : Int) % 2) = ((cc % 2 : Nat) : Int) := by simp
          have hvv : v < 4294967296 := hv
          have e0 : Hid ((v : Int) / 2 % 4294967296 = (v : Int) / 2) := by show _ = _; omega
          by_cases hm : v % 2 = cc % 2
          · have hne : (((v : Int) % 2) != ((cc : Int) % 2)) = false := by rw [hvm, hcm, hm]; simp
            have hrv : Hid ((v : Int) / 2 = (rb v cc : Int)) := by
              show _ = _
              unfold rb
              rw [if_neg (by simpa using hm)]
              simp
            clear hv hrb hm hvm hcm hcc hvv
            go_wp2_with fail
            go_roundw
            case measure => simp [intOf]; omega
            case rel => exact ⟨j + 1, rb v cc, cc / 2, by omega, by simp, by rw [e0.out, hrv.out], by rw [hcd.out], hst.out, hvl.out, hcl.out, trivial⟩
          · have hne : (((v : Int) % 2) != ((cc : Int) % 2)) = true := by rw [bne_iff_ne, hvm, hcm]; intro e; exact hm (by exact_mod_cast e)
            have hrv : Hid (bits .xor .u32 ((v : Int) / 2) 2197175160 = (rb v cc : Int)) := by
              show _ = _
              rw [show ((v : Int) / 2) = ((v / 2 : Nat) : Int) by simp, show (2197175160 : Int) = ((2197175160 : Nat) : Int) from rfl, xor_u32 (by omega) (by decide)]
              unfold rb
              rw [if_pos hm]
            clear hv hrb hm hvm hcm hcc hvv
            go_wp2_with fail
            go_roundw
            case measure => simp [intOf]; omega
            case rel => exact ⟨j + 1, rb v cc, cc / 2, by omega, by simp, by rw [e0.out, hrv.out], by rw [hcd.out], hst.out, hvl.out, hcl.out, trivial⟩
        · have hj8' : j = 8 := by omega
          subst hj8'
          have hvt : v = tgt := hrb
          subst hvt
          clear hrb hv hcc
          go_wp2_with fail
          go_roundw
          case measure => simp [intOf]; omega
          case rel => exact ⟨k + 1, by omega, by simp, by rw [ht.out], trivial⟩
    · obtain rfl : k = l.length := by omega
      have hn2 := Lib.hid (not_u32 (crc_lt (v := 4294967295) (by decide) l))
      go_wp2_with fail
      go_ret
      rw [List.take_length]
      exact ⟨by show Ending.returned (.int .u32 _) = _; rw [hn2.out]; rfl, Upd.refl _ _⟩
end Go.Proofs.Ythppheklnplljaa.Sum
