/-
  The walk of 'almshouselaw06.PowerTells': it returns true and turns nothing that there was. Conditions: the row of acts is read before the call.
-/
import Derived.Test.YtobhpfbldmobfaaPowerL
namespace Go.Proofs.Ytobhpfbldmobfaa.PowerT
open Go.RowKit Go.Proofs.Ytobhpfbldmobfaa.Base Go.Proofs.Ytobhpfbldmobfaa.PowerW
set_option linter.unusedVariables false
/-- The document's block. -/
def Rf (w : World) (b : Nat) (l : Int) (g : Bool) (n : Int) : Prop := w.heap[b]? = some (.cells #[.int .i64 l, .bool g, .int .i64 n] 40 (0, 0))
def SameR (b : Nat) (w : World) (v : Value) (l : Int) (g : Bool) (n : Int) (e : Ending) (w' : World) : Prop := e = .returned v ∧ Rf w' b l g n ∧ Upd (Only b) w w'

set_option maxRecDepth 100000 in
theorem rspend (b : Nat) (l : Int) (g : Bool) (n : Int) (w : World) (h : Rf w b l g n) :
    Calls Try.prog 30 #[.pointer (some ⟨b, 0, none⟩)] w (SameR b w (.int .i64 (spendS l g n).2.2.2) (spendS l g n).1 (spendS l g n).2.1 (spendS l g n).2.2.1) := by
  have hs : ∀ l' g' n' r, spendS l g n = (l', g', n', r) → Calls Try.prog 30 #[.pointer (some ⟨b, 0, none⟩)] w (SameR b w (.int .i64 r) l' g' n') := by
    intro l' g' n' r hs
    have hc0 : (w).cell? ⟨b, 0, none⟩ = some (.int .i64 l) := Base.blk_cell h 0
    have hz0 : (w).frozen? ⟨b, 0, none⟩ = false := Base.blk_frozen h 0
    have hc1 : (w).cell? ⟨b, 1, none⟩ = some (.bool g) := Base.blk_cell h 1
    have hz1 : (w).frozen? ⟨b, 1, none⟩ = false := Base.blk_frozen h 1
    have hc2 : (w).cell? ⟨b, 2, none⟩ = some (.int .i64 n) := Base.blk_cell h 2
    have hz2 : (w).frozen? ⟨b, 2, none⟩ = false := Base.blk_frozen h 2
    cases g with
    | true =>
      obtain ⟨rfl, rfl, rfl, rfl⟩ : l = l' ∧ true = g' ∧ n = n' ∧ 12 = r := by simpa [spendS] using hs
      clear hs
      go_enter Try.func30, Try.ntmps30
      go_wp2
      go_ret
      exact ⟨rfl, h, Upd.refl _ _⟩
    | false =>
      have hA : Rf (w.setCell ⟨b, 2, none⟩ (.int .i64 (wrap64 (n + 1)))) b l false (wrap64 (n + 1)) := blk_put h 2 _ rfl
      by_cases h0 : l = 0
      · subst h0
        obtain ⟨rfl, rfl, rfl, rfl⟩ : 0 = l' ∧ true = g' ∧ wrap64 (n + 1) = n' ∧ 11 = r := by simpa [spendS] using hs
        clear hs
        go_enter Try.func30, Try.ntmps30
        go_wp2
        go_ret
        exact ⟨rfl, blk_put hA 1 _ rfl, ((Upd.refl (Only b) w).set1 _).set1 _⟩
      · have e0 : (l == 0) = false := beq_eq_false_iff_ne.mpr h0
        by_cases h1 : 0 < l
        · obtain ⟨rfl, rfl, rfl, rfl⟩ : wrap64 (l - 1) = l' ∧ false = g' ∧ wrap64 (n + 1) = n' ∧ 0 = r := by simpa [spendS, h0, h1] using hs
          clear hs
          go_enter Try.func30, Try.ntmps30
          go_wp2
          go_ret
          exact ⟨rfl, blk_put hA 0 _ rfl, ((Upd.refl (Only b) w).set1 _).set1 _⟩
        · obtain ⟨rfl, rfl, rfl, rfl⟩ : l = l' ∧ false = g' ∧ wrap64 (n + 1) = n' ∧ 0 = r := by simpa [spendS, h0, h1] using hs
          clear hs
          go_enter Try.func30, Try.ntmps30
          go_wp2
          go_ret
          exact ⟨rfl, hA, (Upd.refl (Only b) w).set1 _⟩
  exact hs _ _ _ _ rfl

def actCells (x : Int × Int) : List Value := [.int .u8 x.1, .int .i64 x.2]
def BothR (w : World) (b c : Nat) : Prop := ∃ l g n, Pw w b l g n ∧ Rf w c l g n

set_option maxRecDepth 100000 in
theorem tells (l0 : Int) (a : Option Addr) (cap : Nat) (l : List (Int × Int)) (hcap : l.length ≤ cap) (hm : cap ≤ maxLen) (hp : ∀ y ∈ l, 0 ≤ y.1 ∧ y.1 ≤ 255) (w : World) (hA : Arg w a 2 actCells l) :
    Calls Try.prog 8 #[.int .i64 l0, .slice a l.length cap] w (RetB true w) := by
  unfold maxLen at hm
  go_enter Try.func8, Try.ntmps8
  go_wp2_with fail
  refine (PowerL.fixed_true w).mono ?_
  rintro e w0 ⟨rfl, hU0⟩
  by_cases hlen : 300 < l.length
  · go_wp2_with fail
    go_ret
    exact ⟨rfl, hU0⟩
  · go_wp2_with fail
    refine (new l0 w0).mono ?_
    rintro e w1 ⟨b, rfl, hb, hP, hU⟩
    go_wp2_with fail
    have hR : Rf (w1.alloc (.cells #[.int .i64 l0, .bool false, .int .i64 0] 40)) w1.heap.size l0 false 0 := blk_new _ _
    have hP1 := blk_alloc hP (.cells #[.int .i64 l0, .bool false, .int .i64 0] 40)
    have hU1 := (hU0.trans hU (fun x hx => .inl hx)).alloc (.cells #[.int .i64 l0, .bool false, .int .i64 0] 40)
    have hc : w.heap.size ≤ w1.heap.size := (hU0.trans hU (fun x hx => .inl hx)).size
    have hb' : w.heap.size ≤ b := Nat.le_trans hU0.size hb
    have hbc : b ≠ w1.heap.size := by have := blk_lt hP; omega
    have hne : ¬ Only b w1.heap.size := fun h => hbc h.symm
    have hne' : ¬ Only w1.heap.size b := fun h => hbc h
    go_loopw [22] (fun i wr => ∃ k : Nat, k ≤ l.length ∧ i = .int .i64 k ∧ BothR wr b w1.heap.size ∧ Upd Nil w wr) (fun i _ => l.length - (intOf i).toNat)
    case atStart => exact ⟨0, Nat.zero_le _, rfl, ⟨_, _, _, hP1, hR⟩, hU1⟩
    case round =>
      obtain ⟨k, hk, rfl, ⟨x, g, n, hPk, hRk⟩, hUk⟩ := hrel
      clear hP1 hR hU1
      by_cases hlt : k < l.length
      · obtain ⟨ab, off, rfl, hab, hcell⟩ := (hA.upd hUk).resolve_left (fun e => by rw [e] at hlt; simp at hlt)
        have hkind := hp l[k] (List.getElem_mem hlt)
        have e0 := hcell k hlt 0 (by omega)
        have e1 := hcell k hlt 1 (by omega)
        clear hcell
        simp only [actCells, List.getElem?_cons_zero, List.getElem?_cons_succ, Nat.add_zero] at e0 e1
        generalize l[k].1 = q at *
        generalize l[k].2 = m at *
        have hPa := blk_alloc hPk (.cells #[.int .u8 q, .int .i64 m] 42)
        have hRa := blk_alloc hRk (.cells #[.int .u8 q, .int .i64 m] 42)
        have hUa := hUk.alloc (.cells #[.int .u8 q, .int .i64 m] 42)
        by_cases c0 : q % 3 = 0
        · have c0b : (q % 3 == 0) = true := beq_iff_eq.mpr c0
          go_wp2_with fail
          refine (spend b x g n _ hPa).mono ?_
          rintro e w2 ⟨rfl, hP2, hU2⟩
          have hR2 := hU2.blk hRa hne
          go_wp2_with fail
          refine (rspend _ x g n _ hR2).mono ?_
          rintro e w3 ⟨rfl, hR3, hV3⟩
          have hP3 := hV3.blk hP2 hne'
          have hU3 := (hUa.newOnly hU2 hb').newOnly hV3 hc
          clear hPa hRa hUa hP2 hU2 hR2 hV3
          generalize (spendS x g n).2.2.2 = rr at *
          generalize (spendS x g n).1 = x' at *
          generalize (spendS x g n).2.1 = g' at *
          generalize (spendS x g n).2.2.1 = n' at *
          have hrr : (rr != rr) = false := bne_self_eq_false _
          have hR3c0 : (w3).cell? ⟨w1.heap.size, 0, none⟩ = some (.int .i64 (x')) := Base.blk_cell hR3 0
          have hR3z0 : (w3).frozen? ⟨w1.heap.size, 0, none⟩ = false := Base.blk_frozen hR3 0
          have hR3c1 : (w3).cell? ⟨w1.heap.size, 1, none⟩ = some (.bool (g')) := Base.blk_cell hR3 1
          have hR3z1 : (w3).frozen? ⟨w1.heap.size, 1, none⟩ = false := Base.blk_frozen hR3 1
          have hR3c2 : (w3).cell? ⟨w1.heap.size, 2, none⟩ = some (.int .i64 (n')) := Base.blk_cell hR3 2
          have hR3z2 : (w3).frozen? ⟨w1.heap.size, 2, none⟩ = false := Base.blk_frozen hR3 2
          have hgg : ((g') != (g')) = false := bne_self_eq_false _
          have hnn : ((n') != (n')) = false := bne_self_eq_false _
          go_wp2_with fail
          go_quiet ((first | (go_at_call 21; exact quiet_same (gone b _ _ _ _ (blk_drewN hP3 _))) | (go_at_call 22; exact quiet_same (ops b _ _ _ _ (blk_drewN hP3 _)))))
          go_wp2
          go_roundw
          case rel => exact ⟨k + 1, by omega, by go_num, ⟨_, _, _, blk_drewN hP3 _, blk_drewN hR3 _⟩, hU3.drewN _⟩
          case measure => simp [intOf]; omega
        · have c0b : (q % 3 == 0) = false := beq_eq_false_iff_ne.mpr c0
          have hXa : (wr.alloc (.cells #[.int .u8 q, .int .i64 m] 42)).heap[wr.heap.size]? = some (.cells #[.int .u8 q, .int .i64 m] 42 (0, 0)) := blk_new _ _
          have hwb : b < wr.heap.size := blk_lt hPk
          have hwc : w1.heap.size < wr.heap.size := blk_lt hRk
          by_cases c1 : q % 3 = 1
          · have c1b : (q % 3 == 1) = true := beq_iff_eq.mpr c1
            go_wp2_with fail
            refine (back b x g n m _ hPa).mono ?_
            rintro e w2 ⟨rfl, hP2, hU2⟩
            have hR2 := hU2.blk hRa hne
            have hX2 := hU2.blk hXa (fun h => by have : wr.heap.size = b := h; omega)
            have hX2c0 : (w2).cell? ⟨wr.heap.size, 0, none⟩ = some (.int .u8 q) := Base.blk_cell hX2 0
            have hX2z0 : (w2).frozen? ⟨wr.heap.size, 0, none⟩ = false := Base.blk_frozen hX2 0
            have hX2c1 : (w2).cell? ⟨wr.heap.size, 1, none⟩ = some (.int .i64 m) := Base.blk_cell hX2 1
            have hX2z1 : (w2).frozen? ⟨wr.heap.size, 1, none⟩ = false := Base.blk_frozen hX2 1
            have hR2c0 : (w2).cell? ⟨w1.heap.size, 0, none⟩ = some (.int .i64 x) := Base.blk_cell hR2 0
            have hR2z0 : (w2).frozen? ⟨w1.heap.size, 0, none⟩ = false := Base.blk_frozen hR2 0
            have hR2c1 : (w2).cell? ⟨w1.heap.size, 1, none⟩ = some (.bool g) := Base.blk_cell hR2 1
            have hR2z1 : (w2).frozen? ⟨w1.heap.size, 1, none⟩ = false := Base.blk_frozen hR2 1
            have hR2c2 : (w2).cell? ⟨w1.heap.size, 2, none⟩ = some (.int .i64 n) := Base.blk_cell hR2 2
            have hR2z2 : (w2).frozen? ⟨w1.heap.size, 2, none⟩ = false := Base.blk_frozen hR2 2
            have hR3 : Rf ((w2.setCell ⟨w1.heap.size, 0, none⟩ (.int .i64 m)).setCell ⟨w1.heap.size, 1, none⟩ (.bool false)) w1.heap.size m false n := blk_put (blk_put hR2 0 _ rfl) 1 _ rfl
            have hP3 : Pw ((w2.setCell ⟨w1.heap.size, 0, none⟩ (.int .i64 m)).setCell ⟨w1.heap.size, 1, none⟩ (.bool false)) b m false n := blk_other (blk_other hP2 hbc _) hbc _
            have hU3 : Upd Nil w ((w2.setCell ⟨w1.heap.size, 0, none⟩ (.int .i64 m)).setCell ⟨w1.heap.size, 1, none⟩ (.bool false)) := ((hUa.newOnly hU2 hb').setNew hc _).setNew hc _
            have hR3c0 : (((w2.setCell ⟨w1.heap.size, 0, none⟩ (.int .i64 m)).setCell ⟨w1.heap.size, 1, none⟩ (.bool false))).cell? ⟨w1.heap.size, 0, none⟩ = some (.int .i64 (m)) := Base.blk_cell hR3 0
            have hR3z0 : (((w2.setCell ⟨w1.heap.size, 0, none⟩ (.int .i64 m)).setCell ⟨w1.heap.size, 1, none⟩ (.bool false))).frozen? ⟨w1.heap.size, 0, none⟩ = false := Base.blk_frozen hR3 0
            have hR3c1 : (((w2.setCell ⟨w1.heap.size, 0, none⟩ (.int .i64 m)).setCell ⟨w1.heap.size, 1, none⟩ (.bool false))).cell? ⟨w1.heap.size, 1, none⟩ = some (.bool (false)) := Base.blk_cell hR3 1
            have hR3z1 : (((w2.setCell ⟨w1.heap.size, 0, none⟩ (.int .i64 m)).setCell ⟨w1.heap.size, 1, none⟩ (.bool false))).frozen? ⟨w1.heap.size, 1, none⟩ = false := Base.blk_frozen hR3 1
            have hR3c2 : (((w2.setCell ⟨w1.heap.size, 0, none⟩ (.int .i64 m)).setCell ⟨w1.heap.size, 1, none⟩ (.bool false))).cell? ⟨w1.heap.size, 2, none⟩ = some (.int .i64 (n)) := Base.blk_cell hR3 2
            have hR3z2 : (((w2.setCell ⟨w1.heap.size, 0, none⟩ (.int .i64 m)).setCell ⟨w1.heap.size, 1, none⟩ (.bool false))).frozen? ⟨w1.heap.size, 2, none⟩ = false := Base.blk_frozen hR3 2
            have hgg : ((false) != (false)) = false := bne_self_eq_false _
            have hnn : ((n) != (n)) = false := bne_self_eq_false _
            go_wp2_with fail
            go_quiet ((first | (go_at_call 21; exact quiet_same (gone b _ _ _ _ (blk_drewN hP3 _))) | (go_at_call 22; exact quiet_same (ops b _ _ _ _ (blk_drewN hP3 _)))))
            go_wp2
            go_roundw
            case rel => exact ⟨k + 1, by omega, by go_num, ⟨_, _, _, blk_drewN hP3 _, blk_drewN hR3 _⟩, hU3.drewN _⟩
            case measure => simp [intOf]; omega
          · have c1b : (q % 3 == 1) = false := beq_eq_false_iff_ne.mpr c1
            have c2 : q % 3 = 2 := by omega
            have c2b : (q % 3 == 2) = true := beq_iff_eq.mpr c2
            go_wp2_with fail
            refine (cut b x g n _ hPa).mono ?_
            rintro e w2 ⟨rfl, hP2, hU2⟩
            have hR2 := hU2.blk hRa hne
            have hR2c0 : (w2).cell? ⟨w1.heap.size, 0, none⟩ = some (.int .i64 x) := Base.blk_cell hR2 0
            have hR2z0 : (w2).frozen? ⟨w1.heap.size, 0, none⟩ = false := Base.blk_frozen hR2 0
            have hR2c1 : (w2).cell? ⟨w1.heap.size, 1, none⟩ = some (.bool g) := Base.blk_cell hR2 1
            have hR2z1 : (w2).frozen? ⟨w1.heap.size, 1, none⟩ = false := Base.blk_frozen hR2 1
            have hR2c2 : (w2).cell? ⟨w1.heap.size, 2, none⟩ = some (.int .i64 n) := Base.blk_cell hR2 2
            have hR2z2 : (w2).frozen? ⟨w1.heap.size, 2, none⟩ = false := Base.blk_frozen hR2 2
            have hR3 : Rf (w2.setCell ⟨w1.heap.size, 1, none⟩ (.bool true)) w1.heap.size x true n := blk_put hR2 1 _ rfl
            have hP3 : Pw (w2.setCell ⟨w1.heap.size, 1, none⟩ (.bool true)) b x true n := blk_other hP2 hbc _
            have hU3 : Upd Nil w (w2.setCell ⟨w1.heap.size, 1, none⟩ (.bool true)) := (hUa.newOnly hU2 hb').setNew hc _
            have hR3c0 : ((w2.setCell ⟨w1.heap.size, 1, none⟩ (.bool true))).cell? ⟨w1.heap.size, 0, none⟩ = some (.int .i64 (x)) := Base.blk_cell hR3 0
            have hR3z0 : ((w2.setCell ⟨w1.heap.size, 1, none⟩ (.bool true))).frozen? ⟨w1.heap.size, 0, none⟩ = false := Base.blk_frozen hR3 0
            have hR3c1 : ((w2.setCell ⟨w1.heap.size, 1, none⟩ (.bool true))).cell? ⟨w1.heap.size, 1, none⟩ = some (.bool (true)) := Base.blk_cell hR3 1
            have hR3z1 : ((w2.setCell ⟨w1.heap.size, 1, none⟩ (.bool true))).frozen? ⟨w1.heap.size, 1, none⟩ = false := Base.blk_frozen hR3 1
            have hR3c2 : ((w2.setCell ⟨w1.heap.size, 1, none⟩ (.bool true))).cell? ⟨w1.heap.size, 2, none⟩ = some (.int .i64 (n)) := Base.blk_cell hR3 2
            have hR3z2 : ((w2.setCell ⟨w1.heap.size, 1, none⟩ (.bool true))).frozen? ⟨w1.heap.size, 2, none⟩ = false := Base.blk_frozen hR3 2
            have hgg : ((true) != (true)) = false := bne_self_eq_false _
            have hnn : ((n) != (n)) = false := bne_self_eq_false _
            go_wp2_with fail
            go_quiet ((first | (go_at_call 21; exact quiet_same (gone b _ _ _ _ (blk_drewN hP3 _))) | (go_at_call 22; exact quiet_same (ops b _ _ _ _ (blk_drewN hP3 _)))))
            go_wp2
            go_roundw
            case rel => exact ⟨k + 1, by omega, by go_num, ⟨_, _, _, blk_drewN hP3 _, blk_drewN hR3 _⟩, hU3.drewN _⟩
            case measure => simp [intOf]; omega
      · obtain rfl : k = l.length := by omega
        go_wp2_with fail
        refine (nils 3 _).1.mono ?_
        rintro e w' ⟨rfl, rfl⟩
        go_wp2_with fail
        refine (nils 3 _).2.1.mono ?_
        rintro e w' ⟨rfl, rfl⟩
        go_wp2_with fail
        refine (gone_nil _).mono ?_
        rintro e w' ⟨rfl, rfl⟩
        go_wp2_with fail
        refine (nils 3 _).2.2.2.mono ?_
        rintro e w' ⟨rfl, rfl⟩
        go_wp2_with fail
        refine (nils 3 _).2.2.1.mono ?_
        rintro e w' ⟨rfl, rfl⟩
        go_wp2_with fail
        go_ret
        exact ⟨rfl, hUk⟩
end Go.Proofs.Ytobhpfbldmobfaa.PowerT
