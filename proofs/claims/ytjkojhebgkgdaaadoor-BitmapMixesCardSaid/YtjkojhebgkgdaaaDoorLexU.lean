/-
  A statement whose order is open, whose calls keep what a relation U of worlds keeps: one walk, in one order, serves every order. Conditions: each lemma's own.
-/
import Derived.Test.YtjkojhebgkgdaaaDoorLex
import Derived.OrdersHeld
import Derived.Deep.RegionHeld3
namespace Go.Proofs.YtjkojhebgkgdaaaDoor.Base
open Go.RowKit
section
variable {P : Program} {ops : Array Oper} {Q : Exit → Act → World → Prop} {md : Region.Mode} {U : World → World → Prop}
def wpAnyV (P : Program) (md : Region.Mode) (ops : Array Oper) (Q : Exit → Act → World → Prop) (U : World → World → Prop) : Nat → Array Bool → Act → World → Prop
  | 0, listed, a, w => Region.ready md ops listed = [] ∧ Q .normal a w
  | fuel + 1, listed, a, w =>
    (Region.ready md ops listed = [] → Q .normal a w) ∧
    ∀ i ∈ Region.ready md ops listed, wpOp P ops Q i (fun a' w' => U w w' ∧ wpAnyV P md ops Q U fuel (listed.setIfInBounds i true) a' w') a w
theorem wpAny_of_V : ∀ (fuel : Nat) (listed : Array Bool) (a : Act) (w : World), wpAnyV P md ops Q U fuel listed a w → wpAny P md ops Q fuel listed a w
  | 0, _, _, _, h => h
  | fuel + 1, _, _, _, h => ⟨h.1, fun i hi => wpOp_mono (fun a' w' h' => wpAny_of_V fuel _ a' w' h'.2) (h.2 i hi)⟩
theorem yields_onV (ht : ∀ a b c, U a b → U b c → U a c) {o : Oper} {v : Value} {a : Act} {w w' : World} (h : YieldsIf P ops (U w) o v a) (u : U w w') : YieldsIf P ops (U w') o v a :=
  h.imp (fun ⟨hw, hv⟩ => ⟨hw, fun x hx => hv x (ht _ _ _ u hx)⟩) id
theorem wpAnyV_first (hr0 : ∀ w, U w w) (ht : ∀ a b c, U a b → U b c → U a c) {i : Nat} {oi : Oper} {v : Value} (hi : ops[i]? = some oi) (hsel : ∀ (j : Nat) (o : Oper) cs b, ops[j]? = some o → o.op ≠ .select cs b)
    (hQ : ∀ c a w, Q (.panic c) (a.put oi.dst v) w → Q (.panic c) a w) :
    ∀ (fuel : Nat) (listed : Array Bool) (a : Act) (w : World),
      (∀ j oj, ops[j]? = some oj → j ≠ i → listed.getD j true = false → (∀ e ∈ oj.after, Region.binds md e = true → e.on ≠ i) → oi.apart ops oj = true) →
      i ∈ Region.ready md ops listed → YieldsIf P ops (U w) oi v a →
      wpAnyV P md ops Q U fuel (listed.setIfInBounds i true) (a.put oi.dst v) w → wpAnyV P md ops Q U (fuel + 1) listed a w := by
  intro fuel
  induction fuel with
  | zero =>
    intro listed a w _ hr hy H
    refine ⟨fun h => (by rw [h] at hr; cases hr), fun j hj => ?_⟩
    by_cases hji : j = i
    · subst hji; exact hy.wpOp hi (hr0 _) ⟨hr0 _, H⟩
    · have := ready_mono hj hji
      rw [H.1] at this
      cases this
  | succ fuel ih =>
    intro listed a w hfree hr hy H
    refine ⟨fun h => (by rw [h] at hr; cases hr), fun j hj => ?_⟩
    by_cases hji : j = i
    · subst hji; exact hy.wpOp hi (hr0 _) ⟨hr0 _, H⟩
    · have h1 := H.2 j (ready_mono hj hji)
      obtain ⟨hjun, oj, hoj, hall⟩ := mem_ready.1 hj
      have hnot : ∀ e ∈ oj.after, Region.binds md e = true → e.on ≠ i := fun e he hb heq => by
        have h1 := hall e he hb
        have h0 := (mem_ready.1 hr).1
        rw [heq] at h1
        rcases Nat.lt_or_ge i listed.size with h' | h'
        · simp [h'] at h0 h1; rw [h0] at h1; cases h1
        · simp [Array.getElem?_eq_none h'] at h1
      have h2 := wpOp_putIf hoj (hfree j oj hoj hji hjun hnot) (fun cs b => hsel i oi cs b hi) (fun cs b => hsel j oj cs b hoj) hQ hy h1
      have hfree' : ∀ k ok, ops[k]? = some ok → k ≠ i → (listed.setIfInBounds j true).getD k true = false →
          (∀ e ∈ ok.after, Region.binds md e = true → e.on ≠ i) → oi.apart ops ok = true := fun k ok hk hki hun hno => by
        refine hfree k ok hk hki ?_ hno
        by_cases hjk : j = k
        · subst hjk; exact hjun
        · rw [getD_set_ne true hjk] at hun; exact hun
      refine wpOp_mono (fun a' w' h3 => ⟨h3.2.1, ih (listed.setIfInBounds j true) a' w' hfree' (ready_mono hr (Ne.symm hji)) (yields_onV (U := U) ht h3.1 h3.2.1) ?_⟩) h2
      rw [Array.setIfInBounds_comm _ _ hji]
      exact h3.2.2

/-- One operation, what follows behind a variable. -/
def lexOpV (P : Program) (ops : Array Oper) (U : World → World → Prop) (Q : Exit → Act → World → Prop) (o : Oper) (K : Act → World → Prop) (a : Act) (w : World) : Prop :=
  if pureKind o then ∃ v, YieldsIf P ops (U w) o v a ∧ K (a.put o.dst v) w
  else if Region.wanted o (yielded ops a.tmps) then o.wp P a w (fun a' w' => U w w' ∧ K a' w') Q else K (a.put o.dst undef) w
def wpLexV (P : Program) (ops : Array Oper) (U : World → World → Prop) (Q : Exit → Act → World → Prop) : List Oper → Act → World → Prop
  | [], a, w => Q .normal a w
  | o :: rest, a, w => lexOpV P ops U Q o (wpLexV P ops U Q rest) a w
theorem wpAnyV_of_lex (hr0 : ∀ w, U w w) (ht : ∀ a b c, U a b → U b c → U a c) (hsel : Region.noSelect ops = true) (hQ : ∀ c (a a' : Act) w, Q (.panic c) a' w → Q (.panic c) a w) : ∀ (order : List Nat) (listed : Array Bool) (a : Act) (w : World),
    lexOk md ops order listed = true → wpLexV P ops U Q (inOrder ops order) a w → wpAnyV P md ops Q U order.length listed a w := by
  intro order
  induction order with
  | nil =>
    intro listed a w hc h
    simp only [lexOk, List.isEmpty_iff] at hc
    exact ⟨hc, h⟩
  | cons i rest ih =>
    intro listed a w hc h
    unfold lexOk at hc
    cases ho : ops[i]? with
    | none => rw [ho] at hc; cases hc
    | some o =>
      have e : inOrder ops (i :: rest) = o :: inOrder ops rest := by
        unfold inOrder
        rw [List.filterMap_cons, Array.getElem?_toList, ho]
      rw [e] at h
      rw [ho] at hc
      simp only [Bool.and_eq_true] at hc
      obtain ⟨⟨h1, h2⟩, h3⟩ := hc
      unfold wpLexV lexOpV at h
      by_cases hp : pureKind o = true
      · rw [if_pos hp] at h2 h
        obtain ⟨v, hy, hrest⟩ := h
        exact wpAnyV_first hr0 ht ho (Region.noSelect_spec hsel) (fun c a w => hQ c a _ w) rest.length listed a w (Region.free_spec ho h2) (by simpa using h1) hy (ih _ _ _ h3 hrest)
      · rw [if_neg hp] at h2 h
        have hr : Region.ready md ops listed = [i] := by simpa using h2
        refine ⟨(fun h0 => by (rw [hr] at h0; cases h0)), fun j hj => ?_⟩
        rw [hr] at hj
        obtain rfl : j = i := by simpa using hj
        unfold wpOp
        rw [ho]
        by_cases hw : Region.wanted o (yielded ops a.tmps) = true
        · simp only [hw, if_true] at h ⊢
          exact .inl (Oper.wp_mono (fun a' w' ⟨hu, hk⟩ => ⟨hu, ih _ _ _ h3 hk⟩) h)
        · simp only [hw] at h ⊢
          exact ⟨hr0 _, ih _ _ _ h3 h⟩
/-- THE BEGINNING. -/
theorem wp_region_lexV (U : World → World → Prop) (hr0 : ∀ w, U w w) (ht : ∀ a b c, U a b → U b c → U a c) {id : Nat} {a : Act} {w : World} (order : List Nat) (hm : P.follows .mixedOrders = true) (hsel : Region.noSelect ops = true) (hlen : order.length = ops.size) (hc : lexOk .any ops order (Array.replicate ops.size false) = true)
    (h : wpLexV P ops U (NoPanic Q) (inOrder ops order) a w.drew) : (Code.region id ops true).wp P Q a w := by
  refine wp_region_noPanic (wp_region_any hm (wpAny_of_V (U := U) _ _ _ _ ?_))
  rw [← hlen]
  exact wpAnyV_of_lex hr0 ht hsel (fun c a a' w h => h) order _ a _ (by rw [hlen]; exact hc) h
/-- An operation that looks only. -/
theorem lexV_pure {rest : List Oper} {a : Act} {w : World} {o : Oper} {v : Value} (hp : pureKind o = true) (hw : Region.wanted o (yielded ops a.tmps) = true)
    (hy : ∀ w', U w w' → (execOp a.eval o).run P w' = .ok (.value v) w') (h : wpLexV P ops U Q rest (a.put o.dst v) w) : wpLexV P ops U Q (o :: rest) a w := by
  unfold wpLexV lexOpV
  simp only [hp, if_true]
  exact ⟨v, .inl ⟨hw, hy⟩, h⟩
/-- One whose guard says no. -/
theorem lexV_skip {rest : List Oper} {a : Act} {w : World} {o : Oper} (hw : Region.wanted o (yielded ops a.tmps) = false)
    (h : wpLexV P ops U Q rest (a.put o.dst undef) w) : wpLexV P ops U Q (o :: rest) a w := by
  unfold wpLexV lexOpV
  split
  · exact ⟨undef, .inr ⟨hw, rfl⟩, h⟩
  · simp only [hw]
    exact h
/-- An allocation, a store. -/
theorem lexV_call {rest : List Oper} {a : Act} {w : World} {o : Oper} (hp : pureKind o = false) (hw : Region.wanted o (yielded ops a.tmps) = true)
    (h : Oper.wp P o a w (fun a' w' => U w w' ∧ wpLexV P ops U Q rest a' w') Q) : wpLexV P ops U Q (o :: rest) a w := by
  unfold wpLexV lexOpV
  simp only [hp, hw, if_true]
  exact h
theorem lexV_run {rest : List Oper} {a : Act} {w w' : World} {o : Oper} {v : Value} (hp : pureKind o = false) (hw : Region.wanted o (yielded ops a.tmps) = true)
    (hr : (execOp a.eval o).run P w = .ok (.value v) w') (hu : U w w') (h : wpLexV P ops U Q rest (a.put o.dst v) w') : wpLexV P ops U Q (o :: rest) a w := by
  refine lexV_call hp hw ?_
  unfold Oper.wp
  rw [hr]
  exact ⟨hu, h⟩
/-- A call of a Go function that is known. -/
theorem lexV_fn {rest : List Oper} {a : Act} {w : World} {o : Oper} {f : FuncId} {args : Array Value} (hp : pureKind o = false) (hw : Region.wanted o (yielded ops a.tmps) = true)
    (hr : (execOp a.eval o).run P w = .ok (.enter f args) w)
    (h : Calls P f args w fun e w' => ∃ v, e = .returned v ∧ U w w' ∧ wpLexV P ops U Q rest (a.put o.dst v) w') : wpLexV P ops U Q (o :: rest) a w := by
  refine lexV_call hp hw ?_
  unfold Oper.wp
  rw [hr]
  simp only [Oper.upon]
  exact h.mono fun e w' ⟨v, he, hu, hk⟩ => by subst he; exact ⟨hu, hk⟩
theorem lexV_done {a : Act} {w : World} (h : Q .normal a w) : wpLexV P ops U (NoPanic Q) [] a w := h
/-- A store. -/
theorem lexV_store {rest : List Oper} {a : Act} {w w' : World} {o : Oper} (hp : pureKind o = false) (hw : Region.wanted o (yielded ops a.tmps) = true)
    (hr : (execOp a.eval o).run P w = .ok .skip w') (hu : U w w') (h : wpLexV P ops U Q rest (a.put o.dst undef) w') : wpLexV P ops U Q (o :: rest) a w := by
  refine lexV_call hp hw ?_
  unfold Oper.wp
  rw [hr]
  exact ⟨hu, h⟩
theorem lex_store {S0 : Nat → Prop} {rest : List Oper} {a : Act} {w w' : World} {o : Oper} (hp : pureKind o = false) (hw : Region.wanted o (yielded ops a.tmps) = true)
    (hr : (execOp a.eval o).run P w = .ok .skip w') (hu : Upd S0 w w') (h : wpLex P ops S0 Q rest (a.put o.dst undef) w') : wpLex P ops S0 Q (o :: rest) a w := by
  refine lex_call hp hw ?_
  unfold Oper.wp
  rw [hr]
  exact ⟨hu, h⟩
end
end Go.Proofs.YtjkojhebgkgdaaaDoor.Base
