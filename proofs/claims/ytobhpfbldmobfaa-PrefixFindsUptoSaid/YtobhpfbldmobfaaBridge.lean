/-
  From the tool's rows to rows of one's own. Conditions: each lemma's own.
-/
import Derived.Test.YtobhpfbldmobfaaWMore
import Derived.Test.YtobhpfbldmobfaaBase
namespace Go.Proofs.Ytobhpfbldmobfaa.Base
open Go.RowKit Go.Proofs.YtobhpfbldmobfaaW.PrintWords
theorem arg_of_C {α : Type} {d : Kd α} {w : World} {A : Option Addr} {xs : List α} {f : α → List Value} {sz : Nat} (hsz : d.sz = sz) (hpos : 0 < sz) (hK : ∀ x cs, d.K w x cs → cs = f x) (h : d.C w A xs.length xs) : Arg w A sz f xs := by
  subst hsz
  by_cases hz : xs = []
  · exact .inl hz
  · have h0 : 0 < xs.length := List.length_pos_iff.2 hz
    obtain ⟨ad, e, hc⟩ := h.2.2 h0
    have key : ∀ i (hi : i < xs.length) j, j < d.sz → w.cell? (ad.add (i * d.sz + j)) = (f xs[i])[j]? := by
      intro i hi j hj
      obtain ⟨c, hl, hr, hcell⟩ := hc i xs[i] (List.getElem?_eq_getElem hi)
      rw [← hK _ _ hr]
      have hj' : j < c.length := by omega
      rw [hcell j _ (List.getElem?_eq_getElem hj'), List.getElem?_eq_getElem hj']
    have hc0 : ∃ v, w.cell? ad = some v := by
      have := key 0 h0 0 hpos
      simp only [Nat.zero_mul, Addr.add, if_true, Nat.add_zero] at this
      obtain ⟨c, hl, hr, _⟩ := hc 0 xs[0] (List.getElem?_eq_getElem h0)
      rw [← hK _ _ hr, List.getElem?_eq_getElem (by omega)] at this
      exact ⟨_, this⟩
    obtain ⟨v, hv⟩ := hc0
    obtain ⟨b, off, spot⟩ := ad
    obtain rfl : spot = none := spot_none hv
    refine .inr ⟨b, off, e, block_lt hv, fun i hi j hj => ?_⟩
    have := key i hi j hj
    rw [← this]
    congr 1
    unfold Addr.add
    by_cases e1 : i * d.sz + j = 0 <;> simp [e1, Nat.add_assoc]
    omega
theorem blk_below {w w1 : World} {b : Nat} {o : Obj} (h : w.heap[b]? = some o) (hb : Below w.heap.size w w1) : w1.heap[b]? = some o := (hb.block b (blk_lt h)).trans h
theorem Upd.below_step {S : Nat → Prop} {a w w' : World} (h : Upd S a w) (hb : Below w.heap.size w w') : Upd S a w' :=
  ⟨hb.os.trans h.os, hb.output.trans h.output, Nat.le_trans h.size hb.size, fun k hk hn => (hb.block k (Nat.lt_of_lt_of_le hk h.size)).trans (h.block k hk hn)⟩
end Go.Proofs.Ytobhpfbldmobfaa.Base
