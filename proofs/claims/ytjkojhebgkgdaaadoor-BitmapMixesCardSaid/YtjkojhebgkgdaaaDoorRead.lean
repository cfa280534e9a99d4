/-
  How the cells of any struct and array of simple fields are read, all fields at once. Conditions: each lemma's own.
-/
import Derived.Test.YtjkojhebgkgdaaaDoorBase
import Derived.OpenShut
namespace Go.Proofs.YtjkojhebgkgdaaaDoor.Base
open Go.RowKit

section
variable {H : Type} {enc : TypeId × Value → H} {P : Program} {w : World}

/-- A cell that is read as a value of a type. -/
def One (enc : TypeId × Value → H) (P : Program) (w : World) (t : TypeId) (v : Value) : Prop := ∃ n x, DataW.trod enc P w 0 (fun _ => true) true n t [v] = some x
def Cells (enc : TypeId × Value → H) (P : Program) (w : World) : List TypeId → List Value → Prop
  | [], cs => cs = []
  | t :: ts, cs => ∃ v vs, cs = v :: vs ∧ One enc P w t v ∧ Cells enc P w ts vs
theorem Cells.append {ts us : List TypeId} {cs ds : List Value} (h : Cells enc P w ts cs) (k : Cells enc P w us ds) : Cells enc P w (ts ++ us) (cs ++ ds) := by
  induction ts generalizing cs with
  | nil => cases h; exact k
  | cons t ts ih =>
    obtain ⟨v, vs, rfl, h1, h2⟩ := h
    exact ⟨v, vs ++ ds, rfl, h1, ih h2⟩
def goF (P : Program) (lv : TypeId → Option (List TypeId)) : List Field → Nat → Option (List TypeId × Nat)
  | [], o => some ([], o)
  | f :: fs, o => if f.offset = o then (lv f.type).bind fun a => (goF P lv fs (o + P.cellsOf f.type)).map fun b => (a ++ b.1, b.2) else none
def goE (a : List TypeId) : Nat → List TypeId
  | 0 => []
  | n + 1 => a ++ goE a n
/-- The types of a type's cells. -/
def leaves (P : Program) : Nat → TypeId → Option (List TypeId)
  | 0, _ => none
  | n + 1, t =>
    match P.underlying t with
    | some (.struct fs) => (goF P (leaves P n) fs.toList 0).bind fun r => if r.2 = P.cellsOf t then some r.1 else none
    | some (.array m e) => (leaves P n e).bind fun a => if m * P.cellsOf e = P.cellsOf t then some (goE a m) else none
    | some (.int _) => some [t]
    | some .bool => some [t]
    | some .string => some [t]
    | some (.slice _) => some [t]
    | some (.pointer _) => some [t]
    | _ => none

theorem fields_ok {lv : TypeId → Option (List TypeId)} {n : Nat} {cs : List Value} (ih : ∀ t ts cs x, lv t = some ts → DataW.trod enc P w 0 (fun _ => true) true n t cs = some x → Cells enc P w ts cs) :
    ∀ (fs : List Field) (o : Nat) (r : List TypeId × Nat), goF P lv fs o = some r → (∀ f ∈ fs, ∃ x, DataW.trod enc P w 0 (fun _ => true) true n f.type ((cs.drop f.offset).take (P.cellsOf f.type)) = some x) →
      r.2 ≤ cs.length → o ≤ r.2 ∧ Cells enc P w r.1 ((cs.drop o).take (r.2 - o)) := by
  intro fs
  induction fs with
  | nil =>
    intro o r h _ _
    simp only [goF] at h
    injection h with h
    subst h
    exact ⟨Nat.le_refl _, by simp [Cells]⟩
  | cons f fs ihf =>
    intro o r h hx hr
    simp only [goF] at h
    split at h
    · rename_i ho
      subst ho
      obtain ⟨a, ha, h⟩ := Option.bind_eq_some_iff.1 h
      obtain ⟨b, hb, rfl⟩ := Option.map_eq_some_iff.1 h
      obtain ⟨x, hx0⟩ := hx f (by simp)
      obtain ⟨hle, hc⟩ := ihf _ _ hb (fun g hg => hx g (by simp [hg])) hr
      have h1 := ih _ _ _ _ ha hx0
      refine ⟨by simp only at hle ⊢; omega, ?_⟩
      have h2 := h1.append hc
      have e : (cs.drop f.offset).take (b.2 - f.offset) = (cs.drop f.offset).take (P.cellsOf f.type) ++ (cs.drop (f.offset + P.cellsOf f.type)).take (b.2 - (f.offset + P.cellsOf f.type)) := by
        have : b.2 - f.offset = P.cellsOf f.type + (b.2 - (f.offset + P.cellsOf f.type)) := by omega
        rw [this, List.take_add, List.drop_drop]
      show Cells enc P w (a ++ b.1) _
      rw [e]
      exact h2
    · exact absurd h (by simp)

theorem elems_ok {a : List TypeId} {sz : Nat} (cs : List Value) : ∀ (m o : Nat), (∀ i, i < m → Cells enc P w a ((cs.drop (o + i * sz)).take sz)) → o + m * sz ≤ cs.length → Cells enc P w (goE a m) ((cs.drop o).take (m * sz)) := by
  intro m
  induction m with
  | zero => intro o _ _; simp [goE, Cells]
  | succ m ih =>
    intro o h hl
    have h0 := h 0 (by omega)
    simp only [Nat.zero_mul, Nat.add_zero] at h0
    have h1 := ih (o + sz) (fun i hi => by
      have := h (i + 1) (by omega)
      rw [Nat.succ_mul] at this
      rw [show o + sz + i * sz = o + (i * sz + sz) by omega]
      exact this) (by rw [Nat.succ_mul] at hl; omega)
    have h2 := h0.append h1
    rw [show (m + 1) * sz = sz + m * sz by rw [Nat.succ_mul]; omega, List.take_add, List.drop_drop]
    exact h2

theorem leaves_ok : ∀ (k : Nat) (t : TypeId) (ts : List TypeId) (n : Nat) (cs : List Value) (x : DataW H × List MemPlace), leaves P k t = some ts → DataW.trod enc P w 0 (fun _ => true) true n t cs = some x → Cells enc P w ts cs := by
  intro k
  induction k with
  | zero => intro t ts n cs x h _; simp [leaves] at h
  | succ k ih =>
    intro t ts n cs x h hx
    have one : ∀ v, cs = [v] → [t] = ts → Cells enc P w ts cs := fun v e e2 => by subst e e2; exact ⟨v, [], rfl, ⟨n, x, hx⟩, rfl⟩
    unfold leaves at h
    split at h
    · rename_i fs ht
      obtain ⟨r, hr, h⟩ := Option.bind_eq_some_iff.1 h
      split at h
      · rename_i hz
        injection h with h
        subst h
        obtain ⟨xs, m, rfl, _, hl, hxl, hf⟩ := DataW.trod_struct ht hx
        have := fields_ok (n := m) (cs := cs) (fun t ts cs x h1 h2 => ih t ts m cs x h1 h2) fs.toList 0 r hr (fun f hfm => by
          obtain ⟨i, hi, rfl⟩ := List.mem_iff_getElem.1 hfm
          have h3 := hf i fs.toList[i] (by simp at hi; simp [hi])
          have hi2 : i < xs.length := by rw [hxl]; simpa using hi
          rw [List.getElem?_eq_getElem hi2] at h3
          exact ⟨_, h3⟩) (by omega)
        have h4 := this.2
        rw [List.drop_zero, List.take_of_length_le (by omega)] at h4
        exact h4
      · exact absurd h (by simp)
    · rename_i m e ht
      obtain ⟨a, ha, h⟩ := Option.bind_eq_some_iff.1 h
      split at h
      · rename_i hz
        injection h with h
        subst h
        obtain ⟨xs, q, rfl, _, hl, hxl, hf⟩ := DataW.trod_array ht hx
        have := elems_ok (enc := enc) (P := P) (w := w) (a := a) (sz := P.cellsOf e) cs m 0 (fun i hi => by
          have h3 := hf i hi
          rw [List.getElem?_eq_getElem (by omega)] at h3
          rw [Nat.zero_add]
          exact ih _ _ _ _ _ ha h3) (by omega)
        rw [List.drop_zero, List.take_of_length_le (by omega)] at this
        exact this
      · exact absurd h (by simp)
    · rename_i k2 ht
      injection h with h
      obtain ⟨v, e, _⟩ := DataW.trod_int ht hx
      exact one _ e h
    · rename_i ht
      injection h with h
      obtain ⟨v, e, _⟩ := DataW.trod_bool ht hx
      exact one _ e h
    · rename_i ht
      injection h with h
      obtain ⟨v, e, _⟩ := DataW.trod_string ht hx
      exact one _ e h
    · rename_i e2 ht
      injection h with h
      rcases DataW.trod_slice ht hx with ⟨e, _⟩ | ⟨a, l, c, _, _, _, _, e, _⟩
      · exact one _ e h
      · exact one _ e h
    · rename_i e2 ht
      injection h with h
      rcases DataW.trod_pointer ht hx with ⟨e, _⟩ | ⟨a, cs', y, m, _, e, _⟩
      · exact one _ e h
      · exact one _ e h
    · exact absurd h (by simp)

theorem One.int {t : TypeId} {k : IntKind} {v : Value} (ht : P.underlying t = some (.int k)) (h : One enc P w t v) : ∃ n, v = .int k n ∧ (Lit.int k n).wf = true := by
  obtain ⟨n, x, h⟩ := h
  obtain ⟨a, e, _, hw⟩ := DataW.trod_int ht h
  exact ⟨a, by simpa using e, hw⟩
theorem One.bool {t : TypeId} {v : Value} (ht : P.underlying t = some .bool) (h : One enc P w t v) : ∃ b, v = .bool b := by
  obtain ⟨n, x, h⟩ := h
  obtain ⟨a, e, _⟩ := DataW.trod_bool ht h
  exact ⟨a, by simpa using e⟩
theorem One.str {t : TypeId} {v : Value} (ht : P.underlying t = some .string) (h : One enc P w t v) : ∃ s, v = .string s ∧ s.size ≤ maxLen := by
  obtain ⟨n, x, h⟩ := h
  obtain ⟨a, e, _, hs⟩ := DataW.trod_string ht h
  exact ⟨a, by simpa using e, hs⟩
/-- A slice in a cell: what it holds, element by element. -/
theorem One.slice {α : Type} {t e : TypeId} {v : Value} {sz : Nat} {f : α → List Value} {p : α → Prop} (ht : P.underlying t = some (.slice e)) (hsz : P.cellsOf e = sz) (hpos : 0 < sz)
    (hf : ∀ n cs x, DataW.trod enc P w 0 (fun _ => true) true n e cs = some x → ∃ y, p y ∧ cs = f y) (h : One enc P w t v) :
    ∃ (a : Option Addr) (cap : Nat) (l : List α), v = .slice a l.length cap ∧ l.length ≤ cap ∧ cap ≤ maxLen ∧ (∀ y ∈ l, p y) ∧ Arg w a sz f l := by
  obtain ⟨n, x, h⟩ := h
  have hv : ∃ a l c, v = .slice a l c := by
    rcases DataW.trod_slice ht h with ⟨e, _⟩ | ⟨a, l, c, _, _, _, _, e, _⟩
    · exact ⟨none, 0, 0, by simpa using e⟩
    · exact ⟨some a, l, c, by simpa using e⟩
  obtain ⟨a, l, c, rfl⟩ := hv
  obtain ⟨d, ps⟩ := x
  obtain ⟨L, rfl, h1, h2, h3, h4⟩ := open_arg (f := f) (p := p) ht hsz hpos hf (a := a) (len := l) (cap := c) (d := d) (ps := ps) ⟨n, h⟩
  exact ⟨a, c, L, rfl, h1, h2, h3, h4⟩
end
end Go.Proofs.YtjkojhebgkgdaaaDoor.Base
