/-
  A cache, in plain Lean: rows, the one used last first; no key twice. Conditions: each lemma's own.
-/
namespace Go.Proofs.Ytcifkccaiekkeaa.Cache
set_option linter.unusedVariables false
set_option linter.unusedSimpArgs false
abbrev Key := Int × Int
variable {V : Type}
def findK (l : List (Key × V)) (k : Key) : Option V := (l.find? (fun r => r.1 == k)).map (·.2)
def dropK (l : List (Key × V)) (k : Key) : List (Key × V) := l.filter (fun r => r.1 != k)
def Keys (l : List (Key × V)) : List Key := l.map (·.1)
def Apart (l : List (Key × V)) : Prop := (Keys l).Nodup
/-- What a putting leaves, and what went for it. -/
def putK (room : Nat) (l : List (Key × V)) (k : Key) (v : V) : List (Key × V) × Option Key :=
  if room = 0 then (dropK l k, none)
  else if (dropK l k).length + 1 ≤ room then ((k, v) :: dropK l k, none)
  else (((k, v) :: dropK l k).dropLast, (((k, v) :: dropK l k).getLast?).map (·.1))
def getK (l : List (Key × V)) (k : Key) : List (Key × V) := match findK l k with
  | none => l
  | some v => (k, v) :: dropK l k
def forgetT (l : List (Key × V)) (t : Int) : List (Key × V) := l.filter (fun r => r.1.1 != t)
theorem apart_drop {l : List (Key × V)} (h : Apart l) (k : Key) : Apart (dropK l k) := by
  unfold Apart Keys dropK at *
  exact h.sublist (List.Sublist.map _ List.filter_sublist)
theorem not_drop (l : List (Key × V)) (k : Key) : k ∉ Keys (dropK l k) := by
  unfold Keys dropK
  intro h
  obtain ⟨r, hr, rfl⟩ := List.mem_map.1 h
  have := (List.mem_filter.1 hr).2
  simp at this
theorem apart_cons {l : List (Key × V)} (h : Apart l) (k : Key) (v : V) : Apart ((k, v) :: dropK l k) := by
  unfold Apart Keys
  rw [List.map_cons, List.nodup_cons]
  exact ⟨not_drop l k, apart_drop h k⟩
theorem apart_put {l : List (Key × V)} (h : Apart l) (room : Nat) (k : Key) (v : V) : Apart (putK room l k v).1 := by
  unfold putK
  split
  · exact apart_drop h k
  · split
    · exact apart_cons h k v
    · have h2 := apart_cons h k v
      unfold Apart Keys at *
      exact h2.sublist (List.Sublist.map _ (List.dropLast_sublist _))
theorem apart_get {l : List (Key × V)} (h : Apart l) (k : Key) : Apart (getK l k) := by
  unfold getK
  split
  · exact h
  · exact apart_cons h k _
theorem apart_forget {l : List (Key × V)} (h : Apart l) (t : Int) : Apart (forgetT l t) := by
  unfold Apart Keys forgetT at *
  exact h.sublist (List.Sublist.map _ List.filter_sublist)
/-- Never more than there is room. -/
theorem put_len {l : List (Key × V)} {room : Nat} (h : l.length ≤ room) (k : Key) (v : V) : (putK room l k v).1.length ≤ room := by
  have hd : (dropK l k).length ≤ l.length := List.length_filter_le _ _
  unfold putK
  split
  · show (dropK l k).length ≤ room
    omega
  · split
    · show (dropK l k).length + 1 ≤ room
      assumption
    · show (((k, v) :: dropK l k).dropLast).length ≤ room
      simp
      omega
end Go.Proofs.Ytcifkccaiekkeaa.Cache
