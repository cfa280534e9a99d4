/-
  A statement whose order is open, whose calls leave all blocks but those of S0 alone: one walk, in one order, serves every order. Conditions: each lemma's own.
-/
import Derived.Test.YtjkojhebgkgdaaaDoorBase
import Derived.OrdersHeld
import Derived.Deep.RegionHeld3
namespace Go.Proofs.YtjkojhebgkgdaaaDoor.Base
open Go.RowKit
section
variable {P : Program} {ops : Array Oper} {Q : Exit → Act → World → Prop} {md : Region.Mode} {S0 : Nat → Prop}
/-- Operations that look at the world at most. -/
def pureKind (o : Oper) : Bool :=
  match o.op with
  | .move _ | .assign _ | .pick _ _ _ | .nilCheck _ | .binOp _ _ _ _ _ | .unOp _ _ _ | .convert _ _ _ | .fieldAddr _ _ _ | .field _ _ _ | .indexAddr _ _ _ | .index _ _ _ | .extract _ _ | .slice _ _ _ _ _ | .build _ _ | .load _ _ | .makeInterface _ _ | .lookup _ _ _ _ => true
  | .call c => match c.callee with
    | .builtin .len | .builtin .cap | .builtin .min | .builtin .max => true
    | _ => false
  | _ => false
def wpAnyU (P : Program) (md : Region.Mode) (ops : Array Oper) (Q : Exit → Act → World → Prop) (S0 : Nat → Prop) : Nat → Array Bool → Act → World → Prop
  | 0, listed, a, w => Region.ready md ops listed = [] ∧ Q .normal a w
  | fuel + 1, listed, a, w =>
    (Region.ready md ops listed = [] → Q .normal a w) ∧
    ∀ i ∈ Region.ready md ops listed, wpOp P ops Q i (fun a' w' => Upd S0 w w' ∧ wpAnyU P md ops Q S0 fuel (listed.setIfInBounds i true) a' w') a w
theorem wpAny_of_U : ∀ (fuel : Nat) (listed : Array Bool) (a : Act) (w : World), wpAnyU P md ops Q S0 fuel listed a w → wpAny P md ops Q fuel listed a w
  | 0, _, _, _, h => h
  | fuel + 1, _, _, _, h => ⟨h.1, fun i hi => wpOp_mono (fun a' w' h' => wpAny_of_U fuel _ a' w' h'.2) (h.2 i hi)⟩
theorem Upd.tr {S : Nat → Prop} {a b c : World} (h : Upd S a b) (k : Upd S b c) : Upd S a c := h.trans k (fun _ hx => .inl hx)
theorem yields_on {o : Oper} {v : Value} {a : Act} {w w' : World} (h : YieldsIf P ops (Upd S0 w) o v a) (u : Upd S0 w w') : YieldsIf P ops (Upd S0 w') o v a :=
  h.imp (fun ⟨hw, hv⟩ => ⟨hw, fun x hx => hv x (u.tr hx)⟩) id
theorem wpAnyU_first {i : Nat} {oi : Oper} {v : Value} (hi : ops[i]? = some oi) (hsel : ∀ (j : Nat) (o : Oper) cs b, ops[j]? = some o → o.op ≠ .select cs b)
    (hQ : ∀ c a w, Q (.panic c) (a.put oi.dst v) w → Q (.panic c) a w) :
    ∀ (fuel : Nat) (listed : Array Bool) (a : Act) (w : World),
      (∀ j oj, ops[j]? = some oj → j ≠ i → listed.getD j true = false → (∀ e ∈ oj.after, Region.binds md e = true → e.on ≠ i) → oi.apart ops oj = true) →
      i ∈ Region.ready md ops listed → YieldsIf P ops (Upd S0 w) oi v a →
      wpAnyU P md ops Q S0 fuel (listed.setIfInBounds i true) (a.put oi.dst v) w → wpAnyU P md ops Q S0 (fuel + 1) listed a w := by
  intro fuel
  induction fuel with
  | zero =>
    intro listed a w _ hr hy H
    refine ⟨fun h => (by rw [h] at hr; cases hr), fun j hj => ?_⟩
    by_cases hji : j = i
    · subst hji; exact hy.wpOp hi (Upd.refl _ _) ⟨Upd.refl _ _, H⟩
    · have := ready_mono hj hji
      rw [H.1] at this
      cases this
  | succ fuel ih =>
    intro listed a w hfree hr hy H
    refine ⟨fun h => (by rw [h] at hr; cases hr), fun j hj => ?_⟩
    by_cases hji : j = i
    · subst hji; exact hy.wpOp hi (Upd.refl _ _) ⟨Upd.refl _ _, H⟩
    · have h1 := H.2 j (ready_mono hj hji)
      obtain ⟨hjun, oj, hoj, hall⟩ := mem_ready.1 hj
      have hnot : ∀ e ∈ oj.after, Region.binds md e = true → e.on ≠ i := fun e he hb heq => by
        have h1 := hall e he hb
        have h0 := (mem_ready.1 hr).1
        rw [heq] at h1
        rcases Nat.lt_or_ge i listed.size with h' | h'
        · simp [h'] at h0 h1; rw [h0] at h1; cases h1
        · simp [Array.getElem?_eq_none h'] at h1
      have h2 := wpOp_putIf hoj (hfree j oj hoj hji hjun hnot) (fun cs b => hsel i oi cs b hi) (fun cs b => hsel j oj cs b hoj) hQ hy h1
      have hfree' : ∀ k ok, ops[k]? = some ok → k ≠ i → (listed.setIfInBounds j true).getD k true = false →
          (∀ e ∈ ok.after, Region.binds md e = true → e.on ≠ i) → oi.apart ops ok = true := fun k ok hk hki hun hno => by
        refine hfree k ok hk hki ?_ hno
        by_cases hjk : j = k
        · subst hjk; exact hjun
        · rw [getD_set_ne true hjk] at hun; exact hun
      refine wpOp_mono (fun a' w' h3 => ⟨h3.2.1, ih (listed.setIfInBounds j true) a' w' hfree' (ready_mono hr (Ne.symm hji)) (yields_on h3.1 h3.2.1) ?_⟩) h2
      rw [Array.setIfInBounds_comm _ _ hji]
      exact h3.2.2

/-- May the operations be walked in this order: whatever looks only is taken as soon as it may come up, and a call when nothing else may? -/
def lexOk (md : Region.Mode) (ops : Array Oper) : List Nat → Array Bool → Bool
  | [], listed => (Region.ready md ops listed).isEmpty
  | i :: rest, listed =>
    match ops[i]? with
    | none => false
    | some o => (Region.ready md ops listed).contains i && (if pureKind o then Region.free md ops listed i else (Region.ready md ops listed) == [i]) && lexOk md ops rest (listed.setIfInBounds i true)
/-- One operation, what follows behind a variable. -/
def lexOp (P : Program) (ops : Array Oper) (S0 : Nat → Prop) (Q : Exit → Act → World → Prop) (o : Oper) (K : Act → World → Prop) (a : Act) (w : World) : Prop :=
  if pureKind o then ∃ v, YieldsIf P ops (Upd S0 w) o v a ∧ K (a.put o.dst v) w
  else if Region.wanted o (yielded ops a.tmps) then o.wp P a w (fun a' w' => Upd S0 w w' ∧ K a' w') Q else K (a.put o.dst undef) w
def wpLex (P : Program) (ops : Array Oper) (S0 : Nat → Prop) (Q : Exit → Act → World → Prop) : List Oper → Act → World → Prop
  | [], a, w => Q .normal a w
  | o :: rest, a, w => lexOp P ops S0 Q o (wpLex P ops S0 Q rest) a w
/-- The operations in an order. -/
def inOrder (ops : Array Oper) (order : List Nat) : List Oper := order.filterMap fun i => ops.toList[i]?
theorem wpAnyU_of_lex (hsel : Region.noSelect ops = true) (hQ : ∀ c (a a' : Act) w, Q (.panic c) a' w → Q (.panic c) a w) : ∀ (order : List Nat) (listed : Array Bool) (a : Act) (w : World),
    lexOk md ops order listed = true → wpLex P ops S0 Q (inOrder ops order) a w → wpAnyU P md ops Q S0 order.length listed a w := by
  intro order
  induction order with
  | nil =>
    intro listed a w hc h
    simp only [lexOk, List.isEmpty_iff] at hc
    exact ⟨hc, h⟩
  | cons i rest ih =>
    intro listed a w hc h
    unfold lexOk at hc
    cases ho : ops[i]? with
    | none => rw [ho] at hc; cases hc
    | some o =>
      have e : inOrder ops (i :: rest) = o :: inOrder ops rest := by
        unfold inOrder
        rw [List.filterMap_cons, Array.getElem?_toList, ho]
      rw [e] at h
      rw [ho] at hc
      simp only [Bool.and_eq_true] at hc
      obtain ⟨⟨h1, h2⟩, h3⟩ := hc
      unfold wpLex lexOp at h
      by_cases hp : pureKind o = true
      · rw [if_pos hp] at h2 h
        obtain ⟨v, hy, hrest⟩ := h
        exact wpAnyU_first ho (Region.noSelect_spec hsel) (fun c a w => hQ c a _ w) rest.length listed a w (Region.free_spec ho h2) (by simpa using h1) hy (ih _ _ _ h3 hrest)
      · rw [if_neg hp] at h2 h
        have hr : Region.ready md ops listed = [i] := by simpa using h2
        refine ⟨(fun h0 => by (rw [hr] at h0; cases h0)), fun j hj => ?_⟩
        rw [hr] at hj
        obtain rfl : j = i := by simpa using hj
        unfold wpOp
        rw [ho]
        by_cases hw : Region.wanted o (yielded ops a.tmps) = true
        · simp only [hw, if_true] at h ⊢
          exact .inl (Oper.wp_mono (fun a' w' ⟨hu, hk⟩ => ⟨hu, ih _ _ _ h3 hk⟩) h)
        · simp only [hw] at h ⊢
          exact ⟨Upd.refl _ _, ih _ _ _ h3 h⟩
/-- THE BEGINNING. -/
theorem wp_region_lex (S0 : Nat → Prop) {id : Nat} {a : Act} {w : World} (order : List Nat) (hm : P.follows .mixedOrders = true) (hsel : Region.noSelect ops = true) (hlen : order.length = ops.size) (hc : lexOk .any ops order (Array.replicate ops.size false) = true)
    (h : wpLex P ops S0 (NoPanic Q) (inOrder ops order) a w.drew) : (Code.region id ops true).wp P Q a w := by
  refine wp_region_noPanic (wp_region_any hm (wpAny_of_U (S0 := S0) _ _ _ _ ?_))
  rw [← hlen]
  exact wpAnyU_of_lex hsel (fun c a a' w h => h) order _ a _ (by rw [hlen]; exact hc) h
/-- An operation that looks only. -/
theorem lex_pure {rest : List Oper} {a : Act} {w : World} {o : Oper} {v : Value} (hp : pureKind o = true) (hw : Region.wanted o (yielded ops a.tmps) = true)
    (hy : ∀ w', Upd S0 w w' → (execOp a.eval o).run P w' = .ok (.value v) w') (h : wpLex P ops S0 Q rest (a.put o.dst v) w) : wpLex P ops S0 Q (o :: rest) a w := by
  unfold wpLex lexOp
  simp only [hp, if_true]
  exact ⟨v, .inl ⟨hw, hy⟩, h⟩
/-- One whose guard says no. -/
theorem lex_skip {rest : List Oper} {a : Act} {w : World} {o : Oper} (hw : Region.wanted o (yielded ops a.tmps) = false)
    (h : wpLex P ops S0 Q rest (a.put o.dst undef) w) : wpLex P ops S0 Q (o :: rest) a w := by
  unfold wpLex lexOp
  split
  · exact ⟨undef, .inr ⟨hw, rfl⟩, h⟩
  · simp only [hw]
    exact h
/-- An allocation, a store. -/
theorem lex_call {rest : List Oper} {a : Act} {w : World} {o : Oper} (hp : pureKind o = false) (hw : Region.wanted o (yielded ops a.tmps) = true)
    (h : Oper.wp P o a w (fun a' w' => Upd S0 w w' ∧ wpLex P ops S0 Q rest a' w') Q) : wpLex P ops S0 Q (o :: rest) a w := by
  unfold wpLex lexOp
  simp only [hp, hw, if_true]
  exact h
theorem lex_run {rest : List Oper} {a : Act} {w w' : World} {o : Oper} {v : Value} (hp : pureKind o = false) (hw : Region.wanted o (yielded ops a.tmps) = true)
    (hr : (execOp a.eval o).run P w = .ok (.value v) w') (hu : Upd S0 w w') (h : wpLex P ops S0 Q rest (a.put o.dst v) w') : wpLex P ops S0 Q (o :: rest) a w := by
  refine lex_call hp hw ?_
  unfold Oper.wp
  rw [hr]
  exact ⟨hu, h⟩
/-- A call of a Go function that is known. -/
theorem lex_fn {rest : List Oper} {a : Act} {w : World} {o : Oper} {f : FuncId} {args : Array Value} (hp : pureKind o = false) (hw : Region.wanted o (yielded ops a.tmps) = true)
    (hr : (execOp a.eval o).run P w = .ok (.enter f args) w)
    (h : Calls P f args w fun e w' => ∃ v, e = .returned v ∧ Upd S0 w w' ∧ wpLex P ops S0 Q rest (a.put o.dst v) w') : wpLex P ops S0 Q (o :: rest) a w := by
  refine lex_call hp hw ?_
  unfold Oper.wp
  rw [hr]
  simp only [Oper.upon]
  exact h.mono fun e w' ⟨v, he, hu, hk⟩ => by subst he; exact ⟨hu, hk⟩
theorem lex_done {a : Act} {w : World} (h : Q .normal a w) : wpLex P ops S0 (NoPanic Q) [] a w := h
end
end Go.Proofs.YtjkojhebgkgdaaaDoor.Base
