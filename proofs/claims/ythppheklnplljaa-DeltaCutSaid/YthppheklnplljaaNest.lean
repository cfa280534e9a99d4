/-
  Arguments that are slices of slices: what is held, and that no inner slice is over-large. Conditions: each lemma's own.
-/
import Derived.Test.YthppheklnplljaaBase
import Derived.SizedLaws
import Derived.Deep.Slices
namespace Go.Proofs.Ythppheklnplljaa.Base
section
variable {H : Type} {enc : TypeId × Value → H} {P : Program} {w : World}
theorem weights_all {e : TypeId} {d : DataW H} {D : List (DataW H)} (h : d ∈ D) (n : Nat) (hn : n ∈ d.weights P e) : n ∈ DataW.weightsAll P e D := by
  induction D with
  | nil => simp at h
  | cons x D ih =>
    rw [DataW.weightsAll, List.mem_append]
    rcases List.mem_cons.1 h with rfl | h
    · exact .inl hn
    · exact .inr (ih h)
/-- As open_arg, and each element is read with what its own slices weigh. -/
theorem open_argW {α : Type} {t e : TypeId} {sz R : Nat} {f : α → List Value} {p : α → Prop} (ht : P.underlying t = some (.slice e)) (hsz : P.cellsOf e = sz) (hpos : 0 < sz)
    (hf : ∀ n cs x, DataW.trod enc P w 0 (fun _ => true) true n e cs = some x → (∀ m ∈ x.1.weights P e, m ≤ R) → ∃ y, p y ∧ cs = f y)
    {a : Option Addr} {len cap : Nat} {d : DataW H} {ps : List MemPlace} (hw : ∀ m ∈ d.weights P t, m ≤ R) (h : DataW.Trod enc P w 0 (fun _ => true) true t (.slice a len cap) d ps) :
    ∃ l : List α, l.length = len ∧ len ≤ cap ∧ cap ≤ maxLen ∧ cap * P.bytesOf e ≤ R ∧ (∀ y ∈ l, p y) ∧ Arg w a sz f l := by
  obtain ⟨fuel, hfu⟩ := h
  rcases Deep.open_slice ht hfu with ⟨hcs, _⟩ | ⟨x, len', cap', m, n, D, Pl, hcs, _, hl, hm, hmm, hxd, hx⟩
  · simp [Value.cells] at hcs
    obtain ⟨rfl, rfl, rfl⟩ := hcs
    exact ⟨[], rfl, Nat.le_refl _, by unfold maxLen; omega, by simp, (fun y (hy : y ∈ []) => absurd hy (by simp)), .inl rfl⟩
  · simp [Value.cells] at hcs
    obtain ⟨rfl, rfl, rfl⟩ := hcs
    simp at hmm
    subst hmm
    obtain ⟨hxd, _⟩ := Prod.mk.inj hxd
    subst hxd
    have hin : ∀ i, i < len → ∀ k ∈ (D i).weights P e, k ≤ R := fun i hi k hk => hw k (by
      simp only [DataW.weights, ht, List.mem_cons, List.mem_append]
      exact .inr (.inl (weights_all (List.mem_map.2 ⟨i, List.mem_range.2 hi, rfl⟩) k hk)))
    have hcap : m * P.bytesOf e ≤ R := by
      have := hw ((len + (m - len)) * P.bytesOf e) (by simp [DataW.weights, ht])
      rwa [show len + (m - len) = m by omega] at this
    obtain ⟨l, hlen, hq⟩ := list_of (q := fun i y => p y ∧ w.cells? 0 (x.add (i * sz)) sz = some (f y)) len (fun i hi => by
      obtain ⟨cs', h1, h2⟩ := hx i (by omega)
      obtain ⟨y, hp, rfl⟩ := hf _ _ _ h2 (hin i hi)
      rw [hsz] at h1
      exact ⟨y, hp, h1⟩)
    refine ⟨l, hlen, hl, hm, hcap, fun y hy => ?_, ?_⟩
    · obtain ⟨i, hi, rfl⟩ := List.mem_iff_getElem.1 hy
      exact (hq i hi).1
    · by_cases hz : l = []
      · exact .inl hz
      · have h0 : 0 < l.length := List.length_pos_iff.2 hz
        obtain ⟨_, g1, g2⟩ := World.cells?_some (hq 0 h0).2
        have hc0 : ∃ v, w.cell? x = some v := by
          have := g2 0 hpos
          simp only [Nat.zero_mul, Addr.add, if_true] at this
          rw [List.getElem?_eq_getElem (by omega)] at this
          exact ⟨_, this⟩
        obtain ⟨v, hv⟩ := hc0
        obtain ⟨b, off, spot⟩ := x
        obtain rfl : spot = none := spot_none hv
        refine .inr ⟨b, off, rfl, block_lt hv, fun i hi j hj => ?_⟩
        have := (World.cells?_some (hq i hi).2).2.2 j hj
        rw [← this]
        congr 1
        unfold Addr.add
        by_cases e1 : i * sz = 0 <;> by_cases e2 : j = 0 <;> simp [e1, e2, Nat.add_assoc]
/-- An inner slice: its address, its capacity, what it holds. -/
abbrev Inner (α : Type) := Option Addr × Nat × List α
def inC {α : Type} (y : Inner α) : List Value := [.slice y.1 y.2.2.length y.2.1]
def InnerOk {α : Type} (w : World) (sz B R : Nat) (f : α → List Value) (p : α → Prop) (y : Inner α) : Prop := y.2.2.length ≤ y.2.1 ∧ y.2.1 ≤ maxLen ∧ y.2.1 * B ≤ R ∧ (∀ z ∈ y.2.2, p z) ∧ Arg w y.1 sz f y.2.2
theorem inner_open {α : Type} {t e : TypeId} {sz R B : Nat} {f : α → List Value} {p : α → Prop} (ht : P.underlying t = some (.slice e)) (hsz : P.cellsOf e = sz) (hpos : 0 < sz) (hB : P.bytesOf e = B)
    (hf : ∀ n cs x, DataW.trod enc P w 0 (fun _ => true) true n e cs = some x → ∃ y, p y ∧ cs = f y) :
    ∀ n cs x, DataW.trod enc P w 0 (fun _ => true) true n t cs = some x → (∀ m ∈ x.1.weights P t, m ≤ R) → ∃ y : Inner α, InnerOk w sz B R f p y ∧ cs = inC y := by
  intro n cs x h hw
  have hv : ∃ a l c, cs = [.slice a l c] := by
    rcases DataW.trod_slice ht h with ⟨e, _⟩ | ⟨a, l, c, _, _, _, _, e, _⟩
    · exact ⟨none, 0, 0, by simpa using e⟩
    · exact ⟨some a, l, c, by simpa using e⟩
  obtain ⟨a, l, c, rfl⟩ := hv
  obtain ⟨d, ps⟩ := x
  obtain ⟨L, rfl, h1, h2, h3, h4, h5⟩ := open_argW (f := f) (p := p) ht hsz hpos (fun n cs x h _ => hf n cs x h) (a := a) (len := l) (cap := c) (d := d) (ps := ps) hw ⟨n, h⟩
  rw [hB] at h3
  exact ⟨(a, c, L), ⟨h1, h2, h3, h4, h5⟩, rfl⟩
end
end Go.Proofs.Ythppheklnplljaa.Base
