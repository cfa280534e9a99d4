/-
  Small words for walks over memory: a block known whole, and what a step leaves of all other blocks. Conditions: each lemma's own.
-/
import Derived.WalkKit
import Derived.Below
import Derived.Carry
import Derived.Laws.NewBlocks
import Derived.Deep.Draws
import Derived.Deep.QuietTactic
import Derived.BigQuiet
import Derived.Deep.LoopGhost
import Derived.WalkLawsBesides
import Derived.WalkSpells
import Derived.ChangeAlike
import Derived.Deep.Slices
namespace Go.Proofs.YtjkojhebgkgdaaaDoor.Base
open Go.RowKit

theorem blk_cell {w : World} {b : Nat} {cs : Array Value} {t : TypeId} (h : w.heap[b]? = some (.cells cs t (0, 0))) (i : Nat) : w.cell? ⟨b, i, none⟩ = cs[i]? := by
  simp [World.cell?, h]
theorem blk_frozen {w : World} {b : Nat} {cs : Array Value} {t : TypeId} (h : w.heap[b]? = some (.cells cs t (0, 0))) (i : Nat) : w.frozen? ⟨b, i, none⟩ = false := by
  simp [World.frozen?, h]
theorem blk_lt {w : World} {b : Nat} {o : Obj} (h : w.heap[b]? = some o) : b < w.heap.size := (Array.getElem?_eq_some_iff.1 h).1
/-- A store into the block. -/
theorem blk_put {w : World} {b : Nat} {cs cs' : Array Value} {t : TypeId} (h : w.heap[b]? = some (.cells cs t (0, 0))) (i : Nat) (u : Value) (e : cs.setIfInBounds i u = cs') :
    (w.setCell ⟨b, i, none⟩ u).heap[b]? = some (.cells cs' t (0, 0)) := by
  subst e
  simp [World.setCell, Array.getElem?_modify, h]
/-- A store into another block. -/
theorem blk_other {w : World} {b : Nat} {o : Obj} (h : w.heap[b]? = some o) {p : Addr} (hp : b ≠ p.block) (u : Value) : (w.setCell p u).heap[b]? = some o :=
  (Below.heap_setCell w p u b hp).trans h
theorem blk_alloc {w : World} {b : Nat} {o : Obj} (h : w.heap[b]? = some o) (o' : Obj) : (w.alloc o').heap[b]? = some o := (Below.heap_alloc w o' b (blk_lt h)).trans h
theorem blk_drew {w : World} {b : Nat} {o : Obj} (h : w.heap[b]? = some o) : w.drew.heap[b]? = some o := h
theorem blk_drewN {w : World} {b : Nat} {o : Obj} (h : w.heap[b]? = some o) (n : Nat) : (w.drewN n).heap[b]? = some o := h
theorem blk_new (w : World) (o : Obj) : (w.alloc o).heap[w.heap.size]? = some o := by
  show (w.heap.push o)[w.heap.size]? = some o
  simp

/-- Behind a step: all blocks that there were, but those in S, are what they were; the streams, too. -/
structure Upd (S : Nat → Prop) (w w' : World) : Prop where
  os : w'.os = w.os
  output : w'.output = w.output
  size : w.heap.size ≤ w'.heap.size
  block : ∀ k, k < w.heap.size → ¬ S k → w'.heap[k]? = w.heap[k]?

theorem Upd.refl (S : Nat → Prop) (w : World) : Upd S w w := ⟨rfl, rfl, Nat.le_refl _, fun _ _ _ => rfl⟩
/-- Two steps; the second one may write to what the first one made. -/
theorem Upd.trans {S S' : Nat → Prop} {a b c : World} (h : Upd S a b) (k : Upd S' b c) (hs : ∀ x, S' x → S x ∨ a.heap.size ≤ x) : Upd S a c :=
  ⟨k.os.trans h.os, k.output.trans h.output, Nat.le_trans h.size k.size, fun i hi hn =>
    (k.block i (Nat.lt_of_lt_of_le hi h.size) (fun hx => by exact (hs i hx).elim hn (fun h1 => absurd h1 (by omega)))).trans (h.block i hi hn)⟩
theorem Upd.drew {S : Nat → Prop} {a w : World} (h : Upd S a w) : Upd S a w.drew := ⟨h.os, h.output, h.size, h.block⟩
theorem Upd.drewN {S : Nat → Prop} {a w : World} (h : Upd S a w) (n : Nat) : Upd S a (w.drewN n) := ⟨h.os, h.output, h.size, h.block⟩
theorem Upd.alloc {S : Nat → Prop} {a w : World} (h : Upd S a w) (o : Obj) : Upd S a (w.alloc o) :=
  ⟨h.os, h.output, by have := h.size; simp; omega, fun k hk hn => (Below.heap_alloc _ _ _ (Nat.lt_of_lt_of_le hk h.size)).trans (h.block k hk hn)⟩
theorem Upd.set {S : Nat → Prop} {a w : World} (h : Upd S a w) {p : Addr} (hp : S p.block ∨ a.heap.size ≤ p.block) (u : Value) : Upd S a (w.setCell p u) :=
  ⟨h.os, h.output, by have := h.size; simp [World.setCell]; omega, fun k hk hn => (Below.heap_setCell _ _ _ _ (fun e => by
    subst e; exact hp.elim hn (fun h1 => absurd h1 (by omega)))).trans (h.block k hk hn)⟩
/-- This block alone. -/
def Only (b : Nat) : Nat → Prop := fun x => x = b
def Nil : Nat → Prop := fun _ => False
theorem Upd.set1 {b i : Nat} {a w : World} (h : Upd (Only b) a w) (u : Value) : Upd (Only b) a (w.setCell ⟨b, i, none⟩ u) := h.set (p := ⟨b, i, none⟩) (.inl rfl) u
theorem Upd.setNew {S : Nat → Prop} {b i : Nat} {a w : World} (h : Upd S a w) (hb : a.heap.size ≤ b) (u : Value) : Upd S a (w.setCell ⟨b, i, none⟩ u) := h.set (p := ⟨b, i, none⟩) (.inr hb) u
theorem Upd.mono {S S' : Nat → Prop} {a w : World} (h : Upd S a w) (hs : ∀ x, S x → S' x) : Upd S' a w := ⟨h.os, h.output, h.size, fun k hk hn => h.block k hk (fun hx => hn (hs k hx))⟩
theorem Upd.of_below {S : Nat → Prop} {a w : World} (h : Below a.heap.size a w) : Upd S a w := ⟨h.os, h.output, h.size, fun k hk _ => h.block k hk⟩
/-- FRAME of a row's 'post', where nothing that there was may turn. -/
theorem Upd.frame {S : Nat → Prop} {W w : World} (h : Upd S W w) (hs : ∀ x, x < W.heap.size → ¬ S x) (may : MemPlace → Prop) : W.keptBut w may := by
  refine ⟨h.os, h.output, fun i hi => ?_⟩
  rw [h.block i hi (hs i hi)]
  split <;> simp_all
theorem Upd.cell {S : Nat → Prop} {a w : World} (h : Upd S a w) {p : Addr} (hp : p.block < a.heap.size) (hn : ¬ S p.block) : w.cell? p = a.cell? p := World.cell?_of_block (w := a) (h.block _ hp hn)
theorem Upd.frozen {S : Nat → Prop} {a w : World} (h : Upd S a w) {p : Addr} (hp : p.block < a.heap.size) (hn : ¬ S p.block) : w.frozen? p = a.frozen? p := World.frozen?_of_block (w := a) (h.block _ hp hn)
theorem Upd.alike {S : Nat → Prop} {a w w' : World} (h : Upd S a w) (k : w'.Alike w) : Upd S a w' := ⟨k.2.1.trans h.os, k.2.2.trans h.output, by rw [k.1]; exact h.size, fun i hi hn => by rw [k.1]; exact h.block i hi hn⟩
theorem blk_alike {w w' : World} {b : Nat} {o : Obj} (h : w.heap[b]? = some o) (k : w'.Alike w) : w'.heap[b]? = some o := by rw [k.1]; exact h
theorem Upd.blk {S : Nat → Prop} {a w : World} (h : Upd S a w) {b : Nat} {o : Obj} (hb : a.heap[b]? = some o) (hn : ¬ S b) : w.heap[b]? = some o := (h.block b (blk_lt hb) hn).trans hb
/-- A bool is handed back; nothing that there was has turned. -/
def RetB (v : Bool) (w : World) (e : Ending) (w' : World) : Prop := e = .returned (.bool v) ∧ Upd Nil w w'
theorem Upd.newOnly {b : Nat} {a w w' : World} (h : Upd Nil a w) (k : Upd (Only b) w w') (hb : a.heap.size ≤ b) : Upd Nil a w' := h.trans k (fun x hx => .inr (by cases hx; exact hb))
/-- ARGS of a row's 'post': an argument reads as it did, where nothing that there was has turned. -/
theorem Upd.trod {H : Type} {enc : TypeId × Value → H} {P : Program} {t : TypeId} (hl : laidOutB P = true) (hr : P.readableRec t = true) (hrow : t < P.types.size) {W W' : World} {v : Value} {d : DataW H} {ps : List MemPlace}
    (h : DataW.Trod enc P W 0 (fun _ => true) true t v d ps) {S : Nat → Prop} (hb : Upd S W W') (hs : ∀ x, x < W.heap.size → ¬ S x) (hlt : ∀ x ∈ ps, x.block < W.heap.size) :
    DataW.Trod enc P W' 0 (fun b => decide (b < W.heap.size)) true t v d ps :=
  WideElems.Trod_stays hl hr hrow h (fun x hx => by
    have hx := hlt x hx
    cases x with
    | cell b o => exact World.cell?_of_block (w := W) (hb.block b hx (hs b hx))
    | map b => exact hb.block b hx (hs b hx)) (fun x hx => by simpa using hlt x hx)
/-- A quiet callee in a region that draws. -/
theorem quiet_same {P : Program} {f : FuncId} {args : Array Value} {w : World} {n : Nat} {v : Value} (h : Calls P f args (w.drewN n) fun e w' => e = .returned v ∧ w.drewN n = w') :
    Calls P f args (w.drewN n) fun e w'' => e = .returned v ∧ ∃ m, w'' = w.drewN m := h.mono fun _ _ ⟨he, hm⟩ => ⟨he, n, hm.symm⟩

/-- An argument's row of elements, each of 'sz' cells, as f tells. -/
def Arg {α : Type} (W : World) (a : Option Addr) (sz : Nat) (f : α → List Value) (l : List α) : Prop :=
  l = [] ∨ ∃ b off, a = some ⟨b, off, none⟩ ∧ b < W.heap.size ∧ ∀ i (h : i < l.length) j, j < sz → W.cell? ⟨b, off + i * sz + j, none⟩ = (f l[i])[j]?
theorem Arg.upd {α : Type} {W W' : World} {a : Option Addr} {sz : Nat} {f : α → List Value} {l : List α} (h : Arg W a sz f l) (u : Upd Nil W W') : Arg W' a sz f l := by
  rcases h with h | ⟨b, off, h1, h2, h3⟩
  · exact .inl h
  · exact .inr ⟨b, off, h1, Nat.lt_of_lt_of_le h2 u.size, fun i hi j hj => (u.cell (p := ⟨b, off + i * sz + j, none⟩) h2 (fun h => h)).trans (h3 i hi j hj)⟩

theorem spot_none {w : World} {a : Addr} {v : Value} (h : w.cell? a = some v) : a.spot = none := by
  unfold World.cell? at h
  split at h
  · split at h
    · cases h
    · rename_i hs; simpa using hs
  · cases h
theorem block_lt {w : World} {a : Addr} {v : Value} (h : w.cell? a = some v) : a.block < w.heap.size := by
  unfold World.cell? at h
  split at h
  · rename_i hb; exact blk_lt hb
  · cases h
theorem list_of {α : Type} {q : Nat → α → Prop} (n : Nat) (h : ∀ i, i < n → ∃ y, q i y) : ∃ l : List α, l.length = n ∧ ∀ i (hi : i < l.length), q i l[i] := by
  induction n with
  | zero => exact ⟨[], rfl, fun i hi => absurd hi (by simp)⟩
  | succ n ih =>
    obtain ⟨l, hl, hq⟩ := ih (fun i hi => h i (by omega))
    obtain ⟨y, hy⟩ := h n (by omega)
    refine ⟨l ++ [y], by simp [hl], fun i hi => ?_⟩
    by_cases e : i < l.length
    · rw [List.getElem_append_left e]; exact hq i e
    · have : i = n := by simp at hi; omega
      subst this
      rw [List.getElem_append_right (by omega)]
      simpa [hl] using hy

theorem open_arg {α : Type} {H : Type} {enc : TypeId × Value → H} {P : Program} {w : World} {t e : TypeId} {sz : Nat} {f : α → List Value} {p : α → Prop} (ht : P.underlying t = some (.slice e)) (hsz : P.cellsOf e = sz) (hpos : 0 < sz)
    (hf : ∀ n cs x, DataW.trod enc P w 0 (fun _ => true) true n e cs = some x → ∃ y, p y ∧ cs = f y)
    {a : Option Addr} {len cap : Nat} {d : DataW H} {ps : List MemPlace} (h : DataW.Trod enc P w 0 (fun _ => true) true t (.slice a len cap) d ps) :
    ∃ l : List α, l.length = len ∧ len ≤ cap ∧ cap ≤ maxLen ∧ (∀ y ∈ l, p y) ∧ Arg w a sz f l := by
  obtain ⟨fuel, hfu⟩ := h
  rcases Deep.open_slice ht hfu with ⟨hcs, _⟩ | ⟨x, len', cap', m, n, D, Pl, hcs, _, hl, hm, hmm, _, hx⟩
  · simp [Value.cells] at hcs
    obtain ⟨rfl, rfl, rfl⟩ := hcs
    exact ⟨[], rfl, Nat.le_refl _, by unfold maxLen; omega, (fun y (hy : y ∈ []) => absurd hy (by simp)), .inl rfl⟩
  · simp [Value.cells] at hcs
    obtain ⟨rfl, rfl, rfl⟩ := hcs
    simp at hmm
    subst hmm
    obtain ⟨l, hlen, hq⟩ := list_of (q := fun i y => p y ∧ w.cells? 0 (x.add (i * sz)) sz = some (f y)) len (fun i hi => by
      obtain ⟨cs', h1, h2⟩ := hx i (by omega)
      obtain ⟨y, hp, rfl⟩ := hf _ _ _ h2
      rw [hsz] at h1
      exact ⟨y, hp, h1⟩)
    refine ⟨l, hlen, hl, hm, fun y hy => ?_, ?_⟩
    · obtain ⟨i, hi, rfl⟩ := List.mem_iff_getElem.1 hy
      exact (hq i hi).1
    · by_cases hz : l = []
      · exact .inl hz
      · have h0 : 0 < l.length := List.length_pos_iff.2 hz
        obtain ⟨_, g1, g2⟩ := World.cells?_some (hq 0 h0).2
        have hc0 : ∃ v, w.cell? x = some v := by
          have := g2 0 hpos
          simp only [Nat.zero_mul, Addr.add, if_true] at this
          rw [List.getElem?_eq_getElem (by omega)] at this
          exact ⟨_, this⟩
        obtain ⟨v, hv⟩ := hc0
        obtain ⟨b, off, spot⟩ := x
        obtain rfl : spot = none := spot_none hv
        refine .inr ⟨b, off, rfl, block_lt hv, fun i hi j hj => ?_⟩
        have := (World.cells?_some (hq i hi).2).2.2 j hj
        rw [← this]
        congr 1
        unfold Addr.add
        by_cases e1 : i * sz = 0 <;> by_cases e2 : j = 0 <;> simp [e1, e2, Nat.add_assoc]
end Go.Proofs.YtjkojhebgkgdaaaDoor.Base
