/-
  A statement whose order is open, with two calls or allocations of which either may come first: the walk forks there. Conditions: each lemma's own.
-/
import Derived.Test.YtenhimaclecdpaaDoorLex
import Derived.Test.YtenhimaclecdpaaDoorLexU
namespace Go.Proofs.YtenhimaclecdpaaDoor.Base
open Go.RowKit
/-- An order: a step, or either of two. -/
inductive Ord where
  | done
  | step (i : Nat) (r : Ord)
  | fork (i : Nat) (r : Ord) (j : Nat) (s : Ord)
def Ord.len : Ord → Nat
  | .done => 0
  | .step _ r => r.len + 1
  | .fork _ r _ _ => r.len + 1
section
variable {P : Program} {ops : Array Oper} {Q : Exit → Act → World → Prop} {md : Region.Mode} {S0 : Nat → Prop}
def okF (md : Region.Mode) (ops : Array Oper) : Ord → Array Bool → Bool
  | .done, listed => (Region.ready md ops listed).isEmpty
  | .step i r, listed =>
    match ops[i]? with
    | none => false
    | some o => (Region.ready md ops listed).contains i && (if pureKind o then Region.free md ops listed i else (Region.ready md ops listed) == [i]) && okF md ops r (listed.setIfInBounds i true)
  | .fork i r j s, listed =>
    match ops[i]?, ops[j]? with
    | some oi, some oj => !pureKind oi && !pureKind oj && (Region.ready md ops listed == [i, j]) && r.len == s.len && okF md ops r (listed.setIfInBounds i true) && okF md ops s (listed.setIfInBounds j true)
    | _, _ => false
def wpF (P : Program) (ops : Array Oper) (S0 : Nat → Prop) (Q : Exit → Act → World → Prop) : Ord → Act → World → Prop
  | .done, a, w => Q .normal a w
  | .step i r, a, w => ∀ o, ops[i]? = some o → lexOp P ops S0 Q o (wpF P ops S0 Q r) a w
  | .fork i r j s, a, w => (∀ o, ops[i]? = some o → lexOp P ops S0 Q o (wpF P ops S0 Q r) a w) ∧ (∀ o, ops[j]? = some o → lexOp P ops S0 Q o (wpF P ops S0 Q s) a w)
theorem op_of_lexOp {i : Nat} {o : Oper} {K : Act → World → Prop} {a : Act} {w : World} (ho : ops[i]? = some o) (hp : pureKind o = false) (h : lexOp P ops S0 Q o K a w) : wpOp P ops Q i (fun a' w' => Upd S0 w w' ∧ K a' w') a w := by
  unfold lexOp at h
  rw [hp] at h
  simp only [Bool.false_eq_true, if_false] at h
  unfold wpOp
  rw [ho]
  by_cases hw : Region.wanted o (yielded ops a.tmps) = true
  · simp only [hw, if_true] at h ⊢
    exact .inl h
  · simp only [hw] at h ⊢
    exact ⟨Upd.refl _ _, h⟩
theorem wpAnyU_of_F (hsel : Region.noSelect ops = true) (hQ : ∀ c (a a' : Act) w, Q (.panic c) a' w → Q (.panic c) a w) : ∀ (t : Ord) (listed : Array Bool) (a : Act) (w : World),
    okF md ops t listed = true → wpF P ops S0 Q t a w → wpAnyU P md ops Q S0 t.len listed a w := by
  intro t
  induction t with
  | done =>
    intro listed a w hc h
    simp only [okF, List.isEmpty_iff] at hc
    exact ⟨hc, h⟩
  | step i r ih =>
    intro listed a w hc h
    unfold okF at hc
    cases ho : ops[i]? with
    | none => rw [ho] at hc; cases hc
    | some o =>
      rw [ho] at hc
      simp only [Bool.and_eq_true] at hc
      obtain ⟨⟨h1, h2⟩, h3⟩ := hc
      have hL := h o ho
      clear h
      by_cases hp : pureKind o = true
      · unfold lexOp at hL
        rw [if_pos hp] at h2 hL
        obtain ⟨v, hy, hrest⟩ := hL
        exact wpAnyU_first ho (Region.noSelect_spec hsel) (fun c a w => hQ c a _ w) r.len listed a w (Region.free_spec ho h2) (by simpa using h1) hy (ih _ _ _ h3 hrest)
      · rw [if_neg hp] at h2
        have hr : Region.ready md ops listed = [i] := by simpa using h2
        refine ⟨(fun h0 => by (rw [hr] at h0; cases h0)), fun j hj => ?_⟩
        rw [hr] at hj
        obtain rfl : j = i := by simpa using hj
        exact wpOp_mono (fun a' w' ⟨hu, hk⟩ => ⟨hu, ih _ _ _ h3 hk⟩) (op_of_lexOp ho (by simpa using hp) hL)
  | fork i r j s ih1 ih2 =>
    intro listed a w hc h
    unfold okF at hc
    cases ho : ops[i]? with
    | none => rw [ho] at hc; simp at hc
    | some oi =>
      cases ho2 : ops[j]? with
      | none => rw [ho, ho2] at hc; simp at hc
      | some oj =>
        rw [ho, ho2] at hc
        simp only [Bool.and_eq_true, Bool.not_eq_true'] at hc
        obtain ⟨⟨⟨⟨⟨hp1, hp2⟩, hr⟩, hl⟩, h3⟩, h4⟩ := hc
        have hr : Region.ready md ops listed = [i, j] := by simpa using hr
        have hl : r.len = s.len := by simpa using hl
        refine ⟨(fun h0 => by (rw [hr] at h0; cases h0)), fun k hk => ?_⟩
        rw [hr] at hk
        rcases List.mem_cons.1 hk with rfl | hk
        · exact wpOp_mono (fun a' w' ⟨hu, hk⟩ => ⟨hu, ih1 _ _ _ h3 hk⟩) (op_of_lexOp ho hp1 (h.1 _ ho))
        · obtain rfl : k = j := by simpa using hk
          exact wpOp_mono (fun a' w' ⟨hu, hk⟩ => ⟨hu, by rw [hl]; exact ih2 _ _ _ h4 hk⟩) (op_of_lexOp ho2 hp2 (h.2 _ ho2))
/-- The same, with the operations themselves. -/
inductive OrdO where
  | done
  | step (o : Oper) (r : OrdO)
  | fork (o : Oper) (r : OrdO) (o2 : Oper) (s : OrdO)
def toO (ops : Array Oper) : Ord → OrdO
  | .done => .done
  | .step i r => match ops.toList[i]? with
    | some o => .step o (toO ops r)
    | none => .done
  | .fork i r j s => match ops.toList[i]?, ops.toList[j]? with
    | some o, some o2 => .fork o (toO ops r) o2 (toO ops s)
    | _, _ => .done
def wpO (P : Program) (ops : Array Oper) (S0 : Nat → Prop) (Q : Exit → Act → World → Prop) : OrdO → Act → World → Prop
  | .done, a, w => Q .normal a w
  | .step o r, a, w => lexOp P ops S0 Q o (wpO P ops S0 Q r) a w
  | .fork o r o2 s, a, w => lexOp P ops S0 Q o (wpO P ops S0 Q r) a w ∧ lexOp P ops S0 Q o2 (wpO P ops S0 Q s) a w
theorem lexOp_mono {o : Oper} {K K' : Act → World → Prop} {a : Act} {w : World} (hk : ∀ a w, K a w → K' a w) (h : lexOp P ops S0 Q o K a w) : lexOp P ops S0 Q o K' a w := by
  unfold lexOp at h ⊢
  split at h
  · rename_i hp
    rw [if_pos hp]
    obtain ⟨v, h1, h2⟩ := h
    exact ⟨v, h1, hk _ _ h2⟩
  · rename_i hp
    rw [if_neg hp]
    split at h
    · rename_i hw
      rw [if_pos hw]
      exact Oper.wp_mono (fun a' w' ⟨hu, h2⟩ => ⟨hu, hk _ _ h2⟩) h
    · rename_i hw
      rw [if_neg hw]
      exact hk _ _ h
theorem wpF_of_O : ∀ (t : Ord) (listed : Array Bool) (a : Act) (w : World), okF md ops t listed = true → wpO P ops S0 Q (toO ops t) a w → wpF P ops S0 Q t a w := by
  intro t
  induction t with
  | done => exact fun _ _ _ _ h => h
  | step i r ih =>
    intro listed a w hc h o ho
    unfold okF at hc
    rw [ho] at hc
    simp only [Bool.and_eq_true] at hc
    unfold toO at h
    rw [Array.getElem?_toList, ho] at h
    exact lexOp_mono (fun a w h => ih _ a w hc.2 h) h
  | fork i r j s ih1 ih2 =>
    intro listed a w hc h
    unfold okF at hc
    cases ho : ops[i]? with
    | none => rw [ho] at hc; simp at hc
    | some oi =>
      cases ho2 : ops[j]? with
      | none => rw [ho, ho2] at hc; simp at hc
      | some oj =>
        rw [ho, ho2] at hc
        simp only [Bool.and_eq_true] at hc
        unfold toO at h
        rw [Array.getElem?_toList, Array.getElem?_toList, ho, ho2] at h
        refine ⟨fun o e => ?_, fun o e => ?_⟩
        · obtain rfl : oi = o := Option.some.inj (ho.symm.trans e)
          exact lexOp_mono (fun a w h => ih1 _ a w hc.1.2 h) h.1
        · obtain rfl : oj = o := Option.some.inj (ho2.symm.trans e)
          exact lexOp_mono (fun a w h => ih2 _ a w hc.2 h) h.2
/-- THE BEGINNING. -/
theorem wp_region_lexF (S0 : Nat → Prop) {id : Nat} {a : Act} {w : World} (t : Ord) (hm : P.follows .mixedOrders = true) (hsel : Region.noSelect ops = true) (hlen : t.len = ops.size) (hc : okF .any ops t (Array.replicate ops.size false) = true)
    (h : wpO P ops S0 (NoPanic Q) (toO ops t) a w.drew) : (Code.region id ops true).wp P Q a w := by
  refine wp_region_noPanic (wp_region_any hm (wpAny_of_U (S0 := S0) _ _ _ _ ?_))
  rw [← hlen]
  exact wpAnyU_of_F hsel (fun c a a' w h => h) t _ a _ (by rw [hlen]; exact hc) (wpF_of_O t _ a _ hc h)
theorem lexF_pure {r : OrdO} {a : Act} {w : World} {o : Oper} {v : Value} (hp : pureKind o = true) (hw : Region.wanted o (yielded ops a.tmps) = true)
    (hy : ∀ w', Upd S0 w w' → (execOp a.eval o).run P w' = .ok (.value v) w') (h : wpO P ops S0 Q r (a.put o.dst v) w) : wpO P ops S0 Q (.step o r) a w := by
  unfold wpO lexOp
  simp only [hp, if_true]
  exact ⟨v, .inl ⟨hw, fun x hx => hy x hx⟩, h⟩
theorem lexF_skip {r : OrdO} {a : Act} {w : World} {o : Oper} (hw : Region.wanted o (yielded ops a.tmps) = false)
    (h : wpO P ops S0 Q r (a.put o.dst undef) w) : wpO P ops S0 Q (.step o r) a w := by
  unfold wpO lexOp
  split
  · exact ⟨undef, .inr ⟨hw, rfl⟩, h⟩
  · simp only [hw]
    exact h
/-- One step that makes, stores or calls; a fork's either side. -/
theorem lexF_step {r : OrdO} {a : Act} {w : World} {o : Oper} (h : lexOp P ops S0 Q o (wpO P ops S0 Q r) a w) : wpO P ops S0 Q (.step o r) a w := h
theorem lexF_fork {r s : OrdO} {a : Act} {w : World} {o o2 : Oper} (h1 : lexOp P ops S0 Q o (wpO P ops S0 Q r) a w) (h2 : lexOp P ops S0 Q o2 (wpO P ops S0 Q s) a w) : wpO P ops S0 Q (.fork o r o2 s) a w := ⟨h1, h2⟩
theorem lexF_of {K : Act → World → Prop} {a : Act} {w : World} {o : Oper} (hp : pureKind o = false) (hw : Region.wanted o (yielded ops a.tmps) = true)
    (h : Oper.wp P o a w (fun a' w' => Upd S0 w w' ∧ K a' w') Q) : lexOp P ops S0 Q o K a w := by
  unfold lexOp
  simp only [hp, hw, if_true]
  exact h
theorem lexF_run {K : Act → World → Prop} {a : Act} {w w' : World} {o : Oper} {v : Value} (hp : pureKind o = false) (hw : Region.wanted o (yielded ops a.tmps) = true)
    (hr : (execOp a.eval o).run P w = .ok (.value v) w') (hu : Upd S0 w w') (h : K (a.put o.dst v) w') : lexOp P ops S0 Q o K a w := by
  refine lexF_of hp hw ?_
  unfold Oper.wp
  rw [hr]
  exact ⟨hu, h⟩
theorem lexF_store {K : Act → World → Prop} {a : Act} {w w' : World} {o : Oper} (hp : pureKind o = false) (hw : Region.wanted o (yielded ops a.tmps) = true)
    (hr : (execOp a.eval o).run P w = .ok .skip w') (hu : Upd S0 w w') (h : K (a.put o.dst undef) w') : lexOp P ops S0 Q o K a w := by
  refine lexF_of hp hw ?_
  unfold Oper.wp
  rw [hr]
  exact ⟨hu, h⟩
theorem lexF_fn {K : Act → World → Prop} {a : Act} {w : World} {o : Oper} {f : FuncId} {args : Array Value} (hp : pureKind o = false) (hw : Region.wanted o (yielded ops a.tmps) = true)
    (hr : (execOp a.eval o).run P w = .ok (.enter f args) w)
    (h : Calls P f args w fun e w' => ∃ v, e = .returned v ∧ Upd S0 w w' ∧ K (a.put o.dst v) w') : lexOp P ops S0 Q o K a w := by
  refine lexF_of hp hw ?_
  unfold Oper.wp
  rw [hr]
  simp only [Oper.upon]
  exact h.mono fun e w' ⟨v, he, hu, hk⟩ => by subst he; exact ⟨hu, hk⟩
theorem lexF_done {a : Act} {w : World} (h : Q .normal a w) : wpO P ops S0 (NoPanic Q) .done a w := h
end
end Go.Proofs.YtenhimaclecdpaaDoor.Base
