/-
  Whatever is put, in plain Lean: what is there are the keys that were used last, as many as there is room for. Conditions: each lemma's own.
-/
import Derived.Test.YtcifkccaiekkeaaCacheP
namespace Go.Proofs.Ytcifkccaiekkeaa.Cache
set_option linter.unusedVariables false
set_option linter.unusedSimpArgs false
variable {V : Type}
/-- What is there, the last putting first in the list of puttings. -/
def rowsR (n : Nat) : List (Key × V) → List (Key × V)
  | [] => []
  | p :: r => (putK n (rowsR n r) p.1 p.2).1
def recent : List (Key × V) → List (Key × V)
  | [] => []
  | p :: r => p :: dropK (recent r) p.1
def left (seen : List Key) : List (Key × V) → List (Key × V)
  | [] => []
  | p :: r => if p.1 ∈ seen then left seen r else p :: left (p.1 :: seen) r
theorem recent_apart : ∀ r : List (Key × V), Apart (recent r)
  | [] => List.nodup_nil
  | p :: r => apart_cons (recent_apart r) p.1 p.2
theorem drop_id {l : List (Key × V)} {k : Key} (h : k ∉ Keys l) : dropK l k = l := by
  unfold dropK
  rw [List.filter_eq_self]
  intro a ha
  simp only [bne_iff_ne, ne_eq]
  exact fun e => h (e ▸ List.mem_map_of_mem ha)
/-- Cutting off and letting one go. -/
theorem take_drop {l : List (Key × V)} (h : Apart l) (k : Key) (n : Nat) : (dropK (l.take (n + 1)) k).take n = (dropK l k).take n := by
  induction l generalizing n with
  | nil => simp [dropK]
  | cons p l ih =>
    have h2 : Apart l := (List.nodup_cons.1 h).2
    by_cases e : p.1 = k
    · have hk : k ∉ Keys l := e ▸ (List.nodup_cons.1 h).1
      have hk2 : k ∉ Keys (l.take n) := fun hx => hk (by
        obtain ⟨a, ha, he⟩ := List.mem_map.1 hx
        exact List.mem_map.2 ⟨a, List.mem_of_mem_take ha, he⟩)
      have e1 : dropK ((p :: l).take (n + 1)) k = dropK (l.take n) k := by simp [dropK, e]
      have e2 : dropK (p :: l) k = dropK l k := by simp [dropK, e]
      rw [e1, e2, drop_id hk, drop_id hk2, List.take_take]
      simp
    · have e1 : dropK ((p :: l).take (n + 1)) k = p :: dropK (l.take n) k := by simp [dropK, e]
      have e2 : dropK (p :: l) k = p :: dropK l k := by simp [dropK, e]
      rw [e1, e2]
      cases n with
      | zero => rfl
      | succ n => rw [List.take_succ_cons, List.take_succ_cons, ih h2 n]
theorem put_take {l : List (Key × V)} (h : Apart l) (n : Nat) (k : Key) (v : V) : (putK (n + 1) (l.take (n + 1)) k v).1 = ((k, v) :: dropK l k).take (n + 1) := by
  have ht := take_drop h k n
  have hl : (dropK (l.take (n + 1)) k).length ≤ n + 1 := Nat.le_trans (List.length_filter_le _ _) (by simp; omega)
  unfold putK
  rw [if_neg (by omega), List.take_succ_cons, ← ht]
  split
  · rename_i h1
    show (k, v) :: _ = _
    rw [List.take_of_length_le (l := dropK (l.take (n + 1)) k) (by omega)]
  · rename_i h1
    have h2 : (dropK (l.take (n + 1)) k).length = n + 1 := by omega
    show ((k, v) :: _).dropLast = _
    rw [List.dropLast_eq_take, List.length_cons, h2]
    simp
theorem rowsR_eq (n : Nat) : ∀ r : List (Key × V), rowsR (n + 1) r = (recent r).take (n + 1)
  | [] => rfl
  | p :: r => by
    show (putK (n + 1) (rowsR (n + 1) r) p.1 p.2).1 = _
    rw [rowsR_eq n r, put_take (recent_apart r)]
    rfl
theorem left_eq : ∀ (r : List (Key × V)) (seen : List Key), left seen r = (recent r).filter (fun p => !decide (p.1 ∈ seen))
  | [], seen => rfl
  | p :: r, seen => by
    unfold left recent
    rw [List.filter_cons]
    by_cases e : p.1 ∈ seen
    · simp only [e, if_true, decide_true, Bool.not_true, Bool.false_eq_true, if_false]
      rw [left_eq r seen]
      unfold dropK
      rw [List.filter_filter]
      apply List.filter_congr
      intro a _
      by_cases e2 : a.1 = p.1
      · simp [e2, e]
      · simp [e2]
    · simp only [e, if_false, decide_false, Bool.not_false, if_true]
      rw [left_eq r (p.1 :: seen)]
      unfold dropK
      rw [List.filter_filter]
      congr 1
      apply List.filter_congr
      intro a _
      simp [Bool.and_comm]
      by_cases e2 : a.1 = p.1 <;> simp [e2, Bool.and_comm, bne]
/-- Going back from the last putting: what was seen, and what is left. -/
structure Back (n : Nat) (all rest : List (Key × V)) (pre : List (Key × V)) : Prop where
  eq : recent all = pre ++ left (Keys pre) rest
theorem left_congr {s1 s2 : List Key} (h : ∀ k, k ∈ s1 ↔ k ∈ s2) (r : List (Key × V)) : left s1 r = left s2 r := by
  rw [left_eq, left_eq]
  apply List.filter_congr
  intro a _
  simp [h]
theorem Back.start (n : Nat) (all : List (Key × V)) : Back n all all [] := ⟨by
  show recent all = left [] all
  rw [left_eq]
  exact (List.filter_eq_self.2 (fun a _ => by simp)).symm⟩
theorem Back.same {n : Nat} {all rest pre : List (Key × V)} {p : Key × V} (h : Back n all (p :: rest) pre) (hs : p.1 ∈ Keys pre) : Back n all rest pre := ⟨by
  rw [h.eq]
  show pre ++ (if p.1 ∈ Keys pre then left (Keys pre) rest else _) = _
  rw [if_pos hs]⟩
theorem Back.more {n : Nat} {all rest pre : List (Key × V)} {p : Key × V} (h : Back n all (p :: rest) pre) (hs : p.1 ∉ Keys pre) : Back n all rest (pre ++ [p]) := ⟨by
  rw [h.eq]
  show pre ++ (if p.1 ∈ Keys pre then _ else p :: left (p.1 :: Keys pre) rest) = _
  rw [if_neg hs, List.append_assoc]
  congr 1
  show p :: _ = p :: _
  congr 1
  refine left_congr (fun k => ?_) rest
  unfold Keys
  simp
  constructor
  · rintro (h | h)
    · exact .inr h
    · exact .inl h
  · rintro (h | h)
    · exact .inr h
    · exact .inl h⟩
theorem find_of_mem {l : List (Key × V)} (h : Apart l) {p : Key × V} (hp : p ∈ l) : findK l p.1 = some p.2 := by
  unfold findK
  induction l with
  | nil => simp at hp
  | cons q l ih =>
    rw [List.find?_cons]
    rcases List.mem_cons.1 hp with rfl | hp
    · simp
    · have hq : q.1 ≠ p.1 := fun e => (List.nodup_cons.1 h).1 (List.mem_map.2 ⟨p, hp, e.symm⟩)
      rw [show (q.1 == p.1) = false by simpa using hq]
      exact ih (List.nodup_cons.1 h).2 hp
theorem Back.find {n : Nat} {all rest pre : List (Key × V)} {p : Key × V} (h : Back n all (p :: rest) pre) (hs : p.1 ∉ Keys pre) (hl : pre.length < n + 1) : findK (rowsR (n + 1) all) p.1 = some p.2 := by
  have ha : Apart ((recent all).take (n + 1)) := by
    unfold Apart Keys
    exact (recent_apart all).sublist (List.Sublist.map _ (List.take_sublist _ _))
  rw [rowsR_eq]
  refine find_of_mem ha ?_
  rw [h.eq]
  show p ∈ (pre ++ (if p.1 ∈ Keys pre then _ else p :: left (p.1 :: Keys pre) rest)).take (n + 1)
  rw [if_neg hs, List.take_append]
  obtain ⟨d, hd⟩ : ∃ d, n + 1 - pre.length = d + 1 := ⟨n - pre.length, by omega⟩
  rw [hd, List.take_succ_cons]
  simp
theorem Back.full {n : Nat} {all rest pre : List (Key × V)} (h : Back n all rest pre) (hl : pre.length = n + 1 ∨ rest = [] ∧ pre.length ≤ n + 1) : (rowsR (n + 1) all).length = pre.length := by
  rw [rowsR_eq, h.eq, List.length_take, List.length_append]
  rcases hl with hl | ⟨rfl, hl⟩
  · omega
  · simp [left]
    omega
end Go.Proofs.Ytcifkccaiekkeaa.Cache
