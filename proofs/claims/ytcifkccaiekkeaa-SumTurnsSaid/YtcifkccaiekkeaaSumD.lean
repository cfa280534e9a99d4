/-
  The walk of almshouselaw02.SumTurns: it returns true and turns nothing that there was. Conditions: what the argument's slice holds.
-/
import Derived.Test.YtcifkccaiekkeaaSumC
import Derived.Test.YtcifkccaiekkeaaSumQ
namespace Go.Proofs.Ytcifkccaiekkeaa.Sum
open Go.RowKit Go.Proofs.Ytcifkccaiekkeaa.Base Go.Proofs.Ytcifkccaiekkeaa.Once
set_option linter.unusedVariables false
theorem elemU8 : Elem Try.prog 50 5 (.int .u8 0) 1 1 bc := ⟨Try.underlying50, by kernel_rfl, rfl, by omega, bc_len, bc_one⟩
set_option maxHeartbeats 8000000 in
set_option maxRecDepth 100000 in
theorem turns (A : Option Addr) (c : Nat) (l : List UInt8) (a : Int) (y : Nat) (w : World) (hA : Arg w A 1 bc l) (hc : l.length ≤ c) (hcm : c ≤ 140737488351232) (a0 : 0 ≤ a) (a1 : a ≤ 65535) (hy : y < 4294967296) :
    Calls Try.prog 13 #[.slice A l.length c, .int .u16 a, .int .u32 y] w (RetB true w) := by
  have hyH := Lib.hid hy
  clear hy
  by_cases h4 : l.length < 4
  · have h4I : (l.length : Int) < 4 := by omega
    go_enter Try.func13, Try.ntmps13
    go_wp2_with (go_at_call 61; refine (fixed _).mono ?_; rintro e w1 ⟨rfl, hU1⟩)
    go_ret
    exact ⟨rfl, hU1⟩
  · by_cases h2 : 2000 < l.length
    · have h2I : (2000 : Int) < l.length := by omega
      go_enter Try.func13, Try.ntmps13
      go_wp2_with (go_at_call 61; refine (fixed _).mono ?_; rintro e w1 ⟨rfl, hU1⟩)
      go_ret
      exact ⟨rfl, hU1⟩
    · by_cases hy0 : y = 0
      · subst hy0
        go_enter Try.func13, Try.ntmps13
        go_wp2_with (go_at_call 61; refine (fixed _).mono ?_; rintro e w1 ⟨rfl, hU1⟩)
        go_ret
        exact ⟨rfl, hU1⟩
      · have hyb : ((y : Int) == 0) = false := by simp [hy0]
        obtain ⟨n, hn, hnl⟩ : ∃ n : Nat, a % ((l.length : Int) - 3) = n ∧ n + 4 ≤ l.length := by
          refine ⟨(a % ((l.length : Int) - 3)).toNat, ?_, ?_⟩
          · have := Int.emod_nonneg a (b := (l.length : Int) - 3) (by omega); omega
          · have := Int.emod_lt_of_pos a (b := (l.length : Int) - 3) (by omega); omega
        have hz : ∀ w : World, Sl (w.alloc (.cells #[] 5)) w.heap.size 5 1 bc (.slice (some ⟨w.heap.size, 0, none⟩) 0 0) [] := fun w => Sl.zero _ _ _ _ _ _ (Nat.le_refl _)
        have hy0H := Lib.hid hy0
        clear hy0
        go_enter Try.func13, Try.ntmps13
        go_wp2_with fail
        refine (fixed _).mono ?_
        rintro e w1 ⟨rfl, hU1⟩
        have hA2 := Src.ofArg (P := Try.prog) (tx := 50) ⟨_, elemU8.ht⟩ elemU8.len elemU8.one ((hA.upd hU1).upd ((Upd.refl _ _).alloc (.cells #[] 5))) c
        go_wp2_with (at_builtin; (refine wp_app w1.heap.size rfl (.tmp 24) (.tmp 25) elemU8 rfl _ [] l _ rfl rfl hA2 (hz w1) (by simp) (by simp; omega) (by unfold maxLen; simp; omega) ?_); intro A2 c2 w2 hv2 hg2 hat2)
        have hU2 : Upd Nil w w2 := (hU1.alloc _).grownOwn (hz w1) hU1.size hg2
        have hS2 : Sl w2 w1.heap.size 5 1 bc (.slice A2 l.length c2) l := by simpa using hv2
        have hwb : w.heap.size ≤ w1.heap.size := hU1.size
        clear hz hA2 hv2 hg2 hat2 hU1
        generalize w1.heap.size = B at *
        go_loopw [33] (fun s33 wr => ∃ (i : Nat) (q : List UInt8), i ≤ 4 ∧ s33 = .int .i64 i ∧ Turned l n y i q ∧ Sl wr B 5 1 bc (.slice A2 l.length c2) q ∧ Upd Nil w wr) (fun s33 _ => 4 - (intOf s33).toNat)
        case atStart => exact ⟨0, l, by omega, rfl, turned_0 l n y, hS2, hU2⟩
        case round =>
          obtain ⟨i, q, hi, rfl, hT, hS, hU⟩ := hrel
          clear hS2 hU2
          by_cases hlt : i < 4
          · obtain ⟨hget, hTn⟩ := turned_succ hT (by omega)
            have hql : q.length = l.length := hT.1
            have hS' : Sl wr B 5 1 bc (.slice A2 q.length c2) q := by rw [hql]; exact hS
            obtain ⟨g, o, rfl, hg, qx⟩ := (hS'.cells bc_len (by omega)).resolve_left (fun e => by rw [e] at hql; simp at hql; omega)
            have x0 := qx (n + i) (by omega) 0 (by omega)
            have hgq : q[n + i]'(by omega) = l[n + i]'(by omega) := by
              have h1 := hget
              rw [List.getElem?_eq_getElem (by omega)] at h1
              injection h1
            rw [hgq] at x0
            have hB := (hS'.typed g rfl).1
            obtain ⟨_, cur, hcur⟩ := hS'.typed g rfl
            have hz1 := blk_frozen hcur (o + (n + i))
            have hset := Sl.set1 (f := fun x : UInt8 => .int .u8 (x.toNat : Int)) hS' (i := n + i) (by omega) (tb (l[n + i]'(by omega)) (ys y i))
            have htb := tb_nat (l[n + i]'(by omega)) (ys_lt y i)
            have hc8 := (l[n + i]'(by omega)).toNat_lt
            have hxr : bits .xor .u8 ((l[n + i]'(by omega)).toNat : Int) (ys y i : Int) = ((tb (l[n + i]'(by omega)) (ys y i)).toNat : Int) := by rw [htb]; exact xor_u8 hc8 (ys_lt y i)
            clear qx hgq hget htb
            simp only [bc, List.getElem?_cons_zero, Nat.add_zero, Nat.mul_one] at x0
            generalize tb (l[n + i]'(by omega)) (ys y i) = nb at *
            generalize (l[n + i]'(by omega)).toNat = ob at *
            have hni : (n : Int) + (i : Int) < l.length := by omega
            have hset2 := Lib.hid hset
            have hTnH := Lib.hid hTn
            have hqlH := Lib.hid hql
            have hxrH := Lib.hid hxr
            have hUn : Hid (Upd Nil w (wr.setCell ⟨g, o + (n + i), none⟩ (.int .u8 (nb.toNat : Int)))) := hU.set (p := ⟨g, o + (n + i), none⟩) (.inr (Nat.le_trans hwb hB)) _
            have hys : Hid ((y : Int) / 2 ^ (8 * i) % 256 = (ys y i : Int)) := by
              show _ = _
              unfold ys
              rw [show (256 : Nat) ^ i = 2 ^ (8 * i) by rw [Nat.pow_mul]]
              push_cast
              rfl
            clear hset hTn hT hxr hc8 hql
            go_wp2_with fail
            go_roundw
            case measure => simp [intOf]; omega
            case rel =>
              rw [hys.out, hxrH.out]
              exact ⟨i + 1, _, by omega, by simp, hTnH.out, by have := hset2.out; rw [hqlH.out] at this; exact this, hUn.out⟩
          · have hi4 : i = 4 := by omega
            subst hi4
            have hql : q.length = l.length := hT.1
            have hne := turned_ne hT hnl hyH.out hy0H.out (v := nt 0) (nt_lt 0)
            have hlt1 := crc_lt (nt_lt 0) q
            have hlt2 := crc_lt (nt_lt 0) l
            have hon : onL 0 q ≠ onL 0 l := by
              unfold onL nt at *
              omega
            have hq1 := fun w' (h : Arg w' A2 1 bc q) => Of A2 c2 q w' h (by unfold maxLen; omega)
            rw [hql] at hq1
            have hS' : Sl wr B 5 1 bc (.slice A2 q.length c2) q := by rw [hql]; exact hS
            have hAq := hS'.cells bc_len (by omega)
            have hl1 : l.length ≤ maxLen := by unfold maxLen; omega
            generalize onL 0 q = z1 at *
            generalize hz2 : onL 0 l = z2 at *
            have hz2H := Lib.hid hz2
            have hnb : ((z1 : Int) != (z2 : Int)) = true := by rw [bne_iff_ne]; intro e; exact hon (by exact_mod_cast e)
            clear hne hlt1 hlt2 hon hz2 hql hS hT
            go_wp2_with fail
            refine (hq1 _ hAq).mono ?_
            rintro e w3 ⟨rfl, hU3⟩
            have hU03 := hU.tr hU3
            go_wp2_with fail
            refine (Of A c l _ (hA.upd hU03) hl1).mono ?_
            rw [hz2H.out]
            rintro e w4 ⟨rfl, hU4⟩
            go_wp2_with fail
            go_ret
            exact ⟨rfl, hU03.tr hU4⟩
end Go.Proofs.Ytcifkccaiekkeaa.Sum
