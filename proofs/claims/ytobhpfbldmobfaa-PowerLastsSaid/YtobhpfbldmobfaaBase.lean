/-
  Small words for walks over memory: a block known whole, and what a step leaves of all other blocks. Conditions: each lemma's own.
-/
import Derived.WalkKit
import Derived.Below
import Derived.Carry
import Derived.Laws.NewBlocks
import Derived.Deep.Draws
import Derived.Deep.QuietTactic
import Derived.BigQuiet
import Derived.Deep.LoopGhost
import Derived.WalkLawsBesides
import Derived.WalkSpells
import Derived.ChangeAlike
namespace Go.Proofs.Ytobhpfbldmobfaa.Base
open Go.RowKit

theorem blk_cell {w : World} {b : Nat} {cs : Array Value} {t : TypeId} (h : w.heap[b]? = some (.cells cs t (0, 0))) (i : Nat) : w.cell? ⟨b, i, none⟩ = cs[i]? := by
  simp [World.cell?, h]
theorem blk_frozen {w : World} {b : Nat} {cs : Array Value} {t : TypeId} (h : w.heap[b]? = some (.cells cs t (0, 0))) (i : Nat) : w.frozen? ⟨b, i, none⟩ = false := by
  simp [World.frozen?, h]
theorem blk_lt {w : World} {b : Nat} {o : Obj} (h : w.heap[b]? = some o) : b < w.heap.size := (Array.getElem?_eq_some_iff.1 h).1
/-- A store into the block. -/
theorem blk_put {w : World} {b : Nat} {cs cs' : Array Value} {t : TypeId} (h : w.heap[b]? = some (.cells cs t (0, 0))) (i : Nat) (u : Value) (e : cs.setIfInBounds i u = cs') :
    (w.setCell ⟨b, i, none⟩ u).heap[b]? = some (.cells cs' t (0, 0)) := by
  subst e
  simp [World.setCell, Array.getElem?_modify, h]
/-- A store into another block. -/
theorem blk_other {w : World} {b : Nat} {o : Obj} (h : w.heap[b]? = some o) {p : Addr} (hp : b ≠ p.block) (u : Value) : (w.setCell p u).heap[b]? = some o :=
  (Below.heap_setCell w p u b hp).trans h
theorem blk_alloc {w : World} {b : Nat} {o : Obj} (h : w.heap[b]? = some o) (o' : Obj) : (w.alloc o').heap[b]? = some o := (Below.heap_alloc w o' b (blk_lt h)).trans h
theorem blk_drew {w : World} {b : Nat} {o : Obj} (h : w.heap[b]? = some o) : w.drew.heap[b]? = some o := h
theorem blk_drewN {w : World} {b : Nat} {o : Obj} (h : w.heap[b]? = some o) (n : Nat) : (w.drewN n).heap[b]? = some o := h
theorem blk_new (w : World) (o : Obj) : (w.alloc o).heap[w.heap.size]? = some o := by
  show (w.heap.push o)[w.heap.size]? = some o
  simp

/-- Behind a step: all blocks that there were, but those in S, are what they were; the streams, too. -/
structure Upd (S : Nat → Prop) (w w' : World) : Prop where
  os : w'.os = w.os
  output : w'.output = w.output
  size : w.heap.size ≤ w'.heap.size
  block : ∀ k, k < w.heap.size → ¬ S k → w'.heap[k]? = w.heap[k]?

theorem Upd.refl (S : Nat → Prop) (w : World) : Upd S w w := ⟨rfl, rfl, Nat.le_refl _, fun _ _ _ => rfl⟩
/-- Two steps; the second one may write to what the first one made. -/
theorem Upd.trans {S S' : Nat → Prop} {a b c : World} (h : Upd S a b) (k : Upd S' b c) (hs : ∀ x, S' x → S x ∨ a.heap.size ≤ x) : Upd S a c :=
  ⟨k.os.trans h.os, k.output.trans h.output, Nat.le_trans h.size k.size, fun i hi hn =>
    (k.block i (Nat.lt_of_lt_of_le hi h.size) (fun hx => by exact (hs i hx).elim hn (fun h1 => absurd h1 (by omega)))).trans (h.block i hi hn)⟩
theorem Upd.drew {S : Nat → Prop} {a w : World} (h : Upd S a w) : Upd S a w.drew := ⟨h.os, h.output, h.size, h.block⟩
theorem Upd.drewN {S : Nat → Prop} {a w : World} (h : Upd S a w) (n : Nat) : Upd S a (w.drewN n) := ⟨h.os, h.output, h.size, h.block⟩
theorem Upd.alloc {S : Nat → Prop} {a w : World} (h : Upd S a w) (o : Obj) : Upd S a (w.alloc o) :=
  ⟨h.os, h.output, by have := h.size; simp; omega, fun k hk hn => (Below.heap_alloc _ _ _ (Nat.lt_of_lt_of_le hk h.size)).trans (h.block k hk hn)⟩
theorem Upd.set {S : Nat → Prop} {a w : World} (h : Upd S a w) {p : Addr} (hp : S p.block ∨ a.heap.size ≤ p.block) (u : Value) : Upd S a (w.setCell p u) :=
  ⟨h.os, h.output, by have := h.size; simp [World.setCell]; omega, fun k hk hn => (Below.heap_setCell _ _ _ _ (fun e => by
    subst e; exact hp.elim hn (fun h1 => absurd h1 (by omega)))).trans (h.block k hk hn)⟩
/-- This block alone. -/
def Only (b : Nat) : Nat → Prop := fun x => x = b
def Nil : Nat → Prop := fun _ => False
theorem Upd.set1 {b i : Nat} {a w : World} (h : Upd (Only b) a w) (u : Value) : Upd (Only b) a (w.setCell ⟨b, i, none⟩ u) := h.set (p := ⟨b, i, none⟩) (.inl rfl) u
theorem Upd.setNew {S : Nat → Prop} {b i : Nat} {a w : World} (h : Upd S a w) (hb : a.heap.size ≤ b) (u : Value) : Upd S a (w.setCell ⟨b, i, none⟩ u) := h.set (p := ⟨b, i, none⟩) (.inr hb) u
theorem Upd.mono {S S' : Nat → Prop} {a w : World} (h : Upd S a w) (hs : ∀ x, S x → S' x) : Upd S' a w := ⟨h.os, h.output, h.size, fun k hk hn => h.block k hk (fun hx => hn (hs k hx))⟩
theorem Upd.of_below {S : Nat → Prop} {a w : World} (h : Below a.heap.size a w) : Upd S a w := ⟨h.os, h.output, h.size, fun k hk _ => h.block k hk⟩
/-- FRAME of a row's 'post', where nothing that there was may turn. -/
theorem Upd.frame {S : Nat → Prop} {W w : World} (h : Upd S W w) (hs : ∀ x, x < W.heap.size → ¬ S x) (may : MemPlace → Prop) : W.keptBut w may := by
  refine ⟨h.os, h.output, fun i hi => ?_⟩
  rw [h.block i hi (hs i hi)]
  split <;> simp_all
theorem Upd.cell {S : Nat → Prop} {a w : World} (h : Upd S a w) {p : Addr} (hp : p.block < a.heap.size) (hn : ¬ S p.block) : w.cell? p = a.cell? p := World.cell?_of_block (w := a) (h.block _ hp hn)
theorem Upd.frozen {S : Nat → Prop} {a w : World} (h : Upd S a w) {p : Addr} (hp : p.block < a.heap.size) (hn : ¬ S p.block) : w.frozen? p = a.frozen? p := World.frozen?_of_block (w := a) (h.block _ hp hn)
theorem Upd.alike {S : Nat → Prop} {a w w' : World} (h : Upd S a w) (k : w'.Alike w) : Upd S a w' := ⟨k.2.1.trans h.os, k.2.2.trans h.output, by rw [k.1]; exact h.size, fun i hi hn => by rw [k.1]; exact h.block i hi hn⟩
theorem blk_alike {w w' : World} {b : Nat} {o : Obj} (h : w.heap[b]? = some o) (k : w'.Alike w) : w'.heap[b]? = some o := by rw [k.1]; exact h
theorem Upd.blk {S : Nat → Prop} {a w : World} (h : Upd S a w) {b : Nat} {o : Obj} (hb : a.heap[b]? = some o) (hn : ¬ S b) : w.heap[b]? = some o := (h.block b (blk_lt hb) hn).trans hb
/-- A bool is handed back; nothing that there was has turned. -/
def RetB (v : Bool) (w : World) (e : Ending) (w' : World) : Prop := e = .returned (.bool v) ∧ Upd Nil w w'
theorem Upd.newOnly {b : Nat} {a w w' : World} (h : Upd Nil a w) (k : Upd (Only b) w w') (hb : a.heap.size ≤ b) : Upd Nil a w' := h.trans k (fun x hx => .inr (by cases hx; exact hb))
/-- ARGS of a row's 'post': an argument reads as it did, where nothing that there was has turned. -/
theorem Upd.trod {H : Type} {enc : TypeId × Value → H} {P : Program} {t : TypeId} (hl : laidOutB P = true) (hr : P.readableRec t = true) (hrow : t < P.types.size) {W W' : World} {v : Value} {d : DataW H} {ps : List MemPlace}
    (h : DataW.Trod enc P W 0 (fun _ => true) true t v d ps) {S : Nat → Prop} (hb : Upd S W W') (hs : ∀ x, x < W.heap.size → ¬ S x) (hlt : ∀ x ∈ ps, x.block < W.heap.size) :
    DataW.Trod enc P W' 0 (fun b => decide (b < W.heap.size)) true t v d ps :=
  WideElems.Trod_stays hl hr hrow h (fun x hx => by
    have hx := hlt x hx
    cases x with
    | cell b o => exact World.cell?_of_block (w := W) (hb.block b hx (hs b hx))
    | map b => exact hb.block b hx (hs b hx)) (fun x hx => by simpa using hlt x hx)
end Go.Proofs.Ytobhpfbldmobfaa.Base
