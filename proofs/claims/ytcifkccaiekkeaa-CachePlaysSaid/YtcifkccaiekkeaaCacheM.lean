/-
  The cache's map, from a key to its node: how it is read and written. Conditions: each lemma's own.
-/
import Derived.Test.YtcifkccaiekkeaaMaps
import Derived.Test.YtcifkccaiekkeaaCacheR
import Derived.Maps.OwnSet
namespace Go.Proofs.Ytcifkccaiekkeaa.Cache
open Go.RowKit Go.Proofs.Ytcifkccaiekkeaa.Base Go.Maps Go.Proofs.Ytcifkccaiekkeaa.Ints
set_option linter.unusedVariables false
def Wk (k : Key) : Prop := (Lit.int .i64 k.1).wf = true ∧ (Lit.int .i64 k.2).wf = true
def kx (k : Key) : Lit := .string (keyBytes [.int .i64 k.1, .int .i64 k.2])
def kv (k : Key) : Value := .agg #[.int .i64 k.1, .int .i64 k.2]
theorem laid : laidOutB Try.prog = true := by kernel_rfl
theorem lawK : Keyed Try.prog 47 := Keyed.of_law (deep_law_laid laid (m := 2) (by omega) (of_decide_eq_true (by kernel_rfl)) (by kernel_rfl) (by kernel_rfl))
theorem lits (n : Nat) (a b : Int) (ha : (Lit.int .i64 a).wf = true) (hb : (Lit.int .i64 b).wf = true) : Try.prog.keyLits (n + 2) 47 [.int .i64 a, .int .i64 b] = some [.int .i64 a, .int .i64 b] := by
  have h1 : ∀ a, (Lit.int .i64 a).wf = true → Try.prog.keyLits (n + 1) 3 [.int .i64 a] = some [.int .i64 a] := fun a h => by
    unfold Program.keyLits
    rw [Try.underlying3]
    simp [h]
  have hc : Try.prog.cellsOf 47 = 2 := by kernel_rfl
  have hi : Try.prog.cellsOf 3 = 1 := by kernel_rfl
  unfold Program.keyLits
  rw [Try.underlying47]
  simp [hc, hi, h1 a ha, h1 b hb]
set_option maxRecDepth 100000 in
theorem keyK {k : Key} (hk : Wk k) : keyOf Try.prog 47 (kv k) = some (kx k) := by
  have h1 : Try.prog.keyType 47 = true := by kernel_rfl
  have h2 : ∃ n, Try.prog.types.size = n + 1 := ⟨Try.prog.types.size - 1, by kernel_rfl⟩
  obtain ⟨n, hn⟩ := h2
  unfold keyOf kv
  rw [Try.underlying47]
  simp only [h1, hn]
  rw [show (Value.agg #[.int .i64 k.1, .int .i64 k.2]).cells.toList = [.int .i64 k.1, .int .i64 k.2] from rfl, lits n _ _ hk.1 hk.2]
  rfl
theorem injK {i j : Key} (hi : Wk i) (hj : Wk j) (h : kx i = kx j) : i = j := by
  have := lawK.inj (keyK hi) ((keyK hj).trans (by rw [h]))
  simp [kv] at this
  obtain ⟨i1, i2⟩ := i
  obtain ⟨j1, j2⟩ := j
  simp at this ⊢
  omega
theorem isK (k : Key) : WideAt.IsKeyLit (kx k) := trivial
/-- A node's pointer: 0 is none, b + 1 is block b. -/
def np : Nat → Value
  | 0 => .pointer none
  | b + 1 => .pointer (some ⟨b, 0, none⟩)
def nodeElem : Value → Option (DataW Nat × List MemPlace)
  | .pointer none => some (.lit (.int .i64 0), [])
  | .pointer (some ⟨b, 0, none⟩) => some (.lit (.int .i64 ((b + 1 : Nat) : Int)), [])
  | _ => none
theorem nodeElem_np (n : Nat) : nodeElem (np n) = some (.lit (.int .i64 (n : Int)), []) := by cases n <;> rfl
theorem nodeElem_inv {v : Value} {x : Int} {ps : List MemPlace} (h : nodeElem v = some (.lit (.int .i64 x), ps)) : v = np x.toNat := by
  unfold nodeElem at h
  split at h
  · simp at h
    rw [← h.1]
    rfl
  · simp at h
    rw [← h.1]
    rfl
  · cases h
theorem fitted {w : World} {P : Program} {k : TypeId} {R : Value → Option (DataW Nat × List MemPlace)} {b n : Nat} {D : DataW Nat} (h : w.ownsMap P k R b n D) : w.ownsMap P k R b (Go.Maps.size D) D := by
  obtain ⟨es, clock, hb, F, hs, rfl⟩ := h
  exact ⟨es, clock, hb, F, by simp [Go.Maps.size, length_sorted], rfl⟩
/-- The map in block M: at each key its node. -/
def MapP (w : World) (M : Nat) (q : Key → Nat) (sz : Nat) : Prop :=
  ∃ D, w.ownsMap Try.prog 47 nodeElem M sz D ∧ Go.Maps.size D = sz ∧ ∀ k, Wk k → D.atKey (kx k) (.lit (.int .i64 0)) = .lit (.int .i64 (q k : Int)) ∧ Go.Maps.has D (kx k) = decide (q k ≠ 0)
section
variable {w w' : World} {M sz : Nat} {q : Key → Nat}
theorem MapP.upd (h : MapP w M q sz) {S : Nat → Prop} (u : Upd S w w') (hn : ¬ S M) : MapP w' M q sz := by
  obtain ⟨D, ⟨es, clock, hb, r⟩, h2⟩ := h
  exact ⟨D, ⟨es, clock, u.blk hb hn, r⟩, h2⟩
theorem MapP.lt (h : MapP w M q sz) : M < w.heap.size := by
  obtain ⟨D, h1, _⟩ := h
  exact h1.lt
theorem MapP.ne (h : MapP w M q sz) {b : Nat} {cs : Array Value} {t : TypeId} {fr : Nat × Nat} (hb : w.heap[b]? = some (.cells cs t fr)) : M ≠ b := by
  rintro rfl
  obtain ⟨D, ⟨es, clock, hb2, r⟩, h2⟩ := h
  rw [hb] at hb2
  cases hb2
theorem MapP.new (w : World) : MapP (w.alloc (.map #[] 0)) w.heap.size (fun _ => 0) 0 :=
  ⟨.map [], World.ownsMap_made _ _ _ _, rfl, fun k hk => ⟨rfl, rfl⟩⟩
theorem zeroN (w : World) : (zeroValue 119).run Try.prog w = .ok (.pointer none) w := by kernel_rfl
theorem MapP.look (h : MapP w M q sz) {k : Key} (hk : Wk k) : (Instr.lookup 118 (.map (some M)) (kv k) false).run Try.prog w = .ok (np (q k)) w := by
  obtain ⟨D, h1, _, h3⟩ := h
  obtain ⟨v, ps, h4, h5⟩ := h1.lookup lawK Try.underlying118 (zeroN w) (nodeElem_np 0) (keyK hk)
  have h6 := (h3 k hk).1
  rw [show ((0 : Nat) : Int) = 0 from rfl, h6] at h5
  rw [h4, nodeElem_inv h5]
  simp
theorem MapP.put (h : MapP w M q sz) (hn : sz < 1000000) {k : Key} (hk : Wk k) (b : Nat) :
    ∃ w', (Instr.mapUpdate 118 (.map (some M)) (kv k) (np (b + 1))).run Try.prog w = .ok () w' ∧ MapP w' M (fun j => if j = k then b + 1 else q j) (if q k = 0 then sz + 1 else sz) ∧ Upd (Only M) w w' := by
  obtain ⟨D, h1, h2, h3⟩ := h
  obtain ⟨w', h4, h5, h6⟩ := h1.update lawK Try.underlying118 (by unfold maxLen; omega) (keyK hk) (nodeElem_np (b + 1))
  have hsz : Go.Maps.size (D.put (kx k) (.lit (.int .i64 ((b + 1 : Nat) : Int)))) = if q k = 0 then sz + 1 else sz := by
    rw [size_put (h1.tidy lawK), h2, (h3 k hk).2]
    by_cases e : q k = 0 <;> simp [e]
  refine ⟨w', h4, ⟨_, hsz ▸ fitted h5, hsz, fun j hj => ?_⟩, ⟨h6.os, h6.output, h6.size, fun k hk hn => h6.block k hk (fun e => hn (by injection e))⟩⟩
  · by_cases e : j = k
    · subst e
      simp only
      rw [atKey_put_same h1.isMap (isK j), has_put_same h1.isMap (isK j)]
      exact ⟨rfl, by simp⟩
    · simp only [if_neg e]
      rw [atKey_put_other (fun e2 => e (injK hj hk e2)), has_put_other (fun e2 => e (injK hj hk e2))]
      exact h3 j hj
theorem MapP.del (h : MapP w M q sz) {k : Key} (hk : Wk k) (ty : TypeId) :
    ∃ w', (Builtin.delete_ #[118, 47] ty #[.map (some M), kv k]).run Try.prog w = .ok (.tuple #[]) w' ∧ MapP w' M (fun j => if j = k then 0 else q j) (if q k = 0 then sz else sz - 1) ∧ Upd (Only M) w w' := by
  obtain ⟨D, h1, h2, h3⟩ := h
  obtain ⟨w', h4, h5, h6⟩ := h1.drop lawK Try.underlying118 (keyK hk) ty
  have h6 := h6.grown
  have hsz : Go.Maps.size (D.del (kx k)) = if q k = 0 then sz else sz - 1 := by
    have := size_del (k := kx k) (h1.tidy lawK)
    rw [(h3 k hk).2, h2] at this
    by_cases e : q k = 0
    · simp [e] at this ⊢
      exact this
    · simp [e] at this ⊢
      omega
  refine ⟨w', h4, ⟨_, hsz ▸ fitted h5, hsz, fun j hj => ?_⟩, ⟨h6.os, h6.output, h6.size, fun k hk hn => h6.block k hk (fun e => hn (by injection e))⟩⟩
  · by_cases e : j = k
    · subst e
      simp only
      rw [atKey_del_same, has_del_same]
      exact ⟨rfl, by simp⟩
    · simp only [if_neg e]
      rw [atKey_del_other (fun e2 => e (injK hj hk e2)), has_del_other (fun e2 => e (injK hj hk e2))]
      exact h3 j hj
theorem MapP.len (h : MapP w M q sz) (ty : TypeId) : (Builtin.len_ #[118] ty #[.map (some M)]).run Try.prog w = .ok (.int .i64 (sz : Int)) w := by
  obtain ⟨D, h1, h2, _⟩ := h
  rw [h1.len Try.underlying118 ty, h2]
end
end Go.Proofs.Ytcifkccaiekkeaa.Cache
