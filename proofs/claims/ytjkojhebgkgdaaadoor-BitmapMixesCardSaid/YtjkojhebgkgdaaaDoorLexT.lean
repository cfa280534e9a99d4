/-
  A statement whose order is open, that makes memory and stores at its end: a look that every store stands behind, by whatever way, is asked of worlds that have only grown. Conditions: each lemma's own.
-/
import Derived.Test.YtjkojhebgkgdaaaDoorLex
import Derived.OrdersHeld
import Derived.Deep.RegionHeld3
namespace Go.Proofs.YtjkojhebgkgdaaaDoor.Base
open Go.RowKit
/-- Does it write to what there was? -/
def big (o : Oper) : Bool := match o.op with
  | .store .. => true
  | .mapUpdate .. => true
  | _ => false
section
variable {P : Program} {ops : Array Oper} {Q : Exit → Act → World → Prop} {md : Region.Mode} {U V : World → World → Prop}
def wpAnyT (P : Program) (md : Region.Mode) (ops : Array Oper) (Q : Exit → Act → World → Prop) (U V : World → World → Prop) : Nat → Array Bool → Act → World → Prop
  | 0, listed, a, w => Region.ready md ops listed = [] ∧ Q .normal a w
  | fuel + 1, listed, a, w =>
    (Region.ready md ops listed = [] → Q .normal a w) ∧
    ∀ i ∈ Region.ready md ops listed, wpOp P ops Q i (fun a' w' => ((∀ o, ops[i]? = some o → big o = false → V w w') ∧ U w w') ∧ wpAnyT P md ops Q U V fuel (listed.setIfInBounds i true) a' w') a w
/-- Does j stand behind i, by whatever way? -/
def upB (md : Region.Mode) (ops : Array Oper) (i : Nat) : Nat → Nat → Bool
  | 0, _ => false
  | d + 1, j => match ops[j]? with
    | none => false
    | some o => o.after.any fun e => Region.binds md e && (e.on == i || upB md ops i d e.on)
def sureT (md : Region.Mode) (ops : Array Oper) (i : Nat) : Bool := (List.range ops.size).all fun j => match ops[j]? with
  | none => true
  | some o => !big o || upB md ops i ops.size j
def Closed (md : Region.Mode) (ops : Array Oper) (listed : Array Bool) : Prop := ∀ j o, ops[j]? = some o → listed.getD j false = true → ∀ e ∈ o.after, Region.binds md e = true → listed.getD e.on false = true
theorem closed_up {listed : Array Bool} (hc : Closed md ops listed) {i : Nat} (hi : listed.getD i false = false) : ∀ d j, upB md ops i d j = true → listed.getD j false = false
  | 0, j, h => by simp [upB] at h
  | d + 1, j, h => by
    unfold upB at h
    cases ho : ops[j]? with
    | none => rw [ho] at h; cases h
    | some o =>
      rw [ho] at h
      simp only [Array.any_eq_true', Bool.and_eq_true, Bool.or_eq_true, beq_iff_eq] at h
      obtain ⟨e, he, hb, h⟩ := h
      cases hl : listed.getD j false with
      | false => rfl
      | true =>
        have h1 := hc j o ho hl e he hb
        rcases h with h | h
        · rw [h, hi] at h1
          cases h1
        · rw [closed_up hc hi d e.on h] at h1
          cases h1
theorem closed_set {listed : Array Bool} (hc : Closed md ops listed) {j : Nat} (hj : j ∈ Region.ready md ops listed) : Closed md ops (listed.setIfInBounds j true) := by
  obtain ⟨_, o, ho, hall⟩ := mem_ready.1 hj
  intro k ok hk hl e he hb
  by_cases hkj : j = k
  · subst hkj
    rw [ho] at hk
    injection hk with hk
    subst hk
    exact getD_set_true (hall e he hb)
  · rw [getD_set_ne false hkj] at hl
    exact getD_set_true (hc k ok hk hl e he hb)
/-- Where an operation's look is asked for. -/
def AtT (U V : World → World → Prop) (s : Bool) (w : World) : World → Prop := fun x => U w x ∧ (s = true → V w x)
theorem wpAny_of_T : ∀ (fuel : Nat) (listed : Array Bool) (a : Act) (w : World), wpAnyT P md ops Q U V fuel listed a w → wpAny P md ops Q fuel listed a w
  | 0, _, _, _, h => h
  | fuel + 1, _, _, _, h => ⟨h.1, fun i hi => wpOp_mono (fun a' w' h' => wpAny_of_T fuel _ a' w' h'.2) (h.2 i hi)⟩
theorem yields_onT (ht : ∀ a b c, U a b → U b c → U a c) (hv : ∀ a b c, V a b → V b c → V a c) {s : Bool} {o : Oper} {v : Value} {a : Act} {w w' : World} (h : YieldsIf P ops (AtT U V s w) o v a) (u : U w w') (hs : s = true → V w w') : YieldsIf P ops (AtT U V s w') o v a :=
  h.imp (fun ⟨hw, hy⟩ => ⟨hw, fun x hx => hy x ⟨ht _ _ _ u hx.1, fun e => hv _ _ _ (hs e) (hx.2 e)⟩⟩) id
theorem wpAnyT_first (hr0 : ∀ w, U w w) (ht : ∀ a b c, U a b → U b c → U a c) (hv0 : ∀ w, V w w) (hvt : ∀ a b c, V a b → V b c → V a c) {s : Bool} {i : Nat} (hs : s = true → sureT md ops i = true) {oi : Oper} {v : Value} (hi : ops[i]? = some oi) (hsel : ∀ (j : Nat) (o : Oper) cs b, ops[j]? = some o → o.op ≠ .select cs b)
    (hQ : ∀ c a w, Q (.panic c) (a.put oi.dst v) w → Q (.panic c) a w) :
    ∀ (fuel : Nat) (listed : Array Bool) (a : Act) (w : World), Closed md ops listed →
      (∀ j oj, ops[j]? = some oj → j ≠ i → listed.getD j true = false → (∀ e ∈ oj.after, Region.binds md e = true → e.on ≠ i) → oi.apart ops oj = true) →
      i ∈ Region.ready md ops listed → YieldsIf P ops (AtT U V s w) oi v a →
      wpAnyT P md ops Q U V fuel (listed.setIfInBounds i true) (a.put oi.dst v) w → wpAnyT P md ops Q U V (fuel + 1) listed a w := by
  intro fuel
  induction fuel with
  | zero =>
    intro listed a w hcl _ hr hy H
    refine ⟨fun h => (by rw [h] at hr; cases hr), fun j hj => ?_⟩
    by_cases hji : j = i
    · subst hji; exact hy.wpOp hi ⟨hr0 _, fun _ => hv0 _⟩ ⟨⟨fun _ _ _ => hv0 _, hr0 _⟩, H⟩
    · have := ready_mono hj hji
      rw [H.1] at this
      cases this
  | succ fuel ih =>
    intro listed a w hcl hfree hr hy H
    refine ⟨fun h => (by rw [h] at hr; cases hr), fun j hj => ?_⟩
    by_cases hji : j = i
    · subst hji; exact hy.wpOp hi ⟨hr0 _, fun _ => hv0 _⟩ ⟨⟨fun _ _ _ => hv0 _, hr0 _⟩, H⟩
    · have h1 := H.2 j (ready_mono hj hji)
      obtain ⟨hjun, oj, hoj, hall⟩ := mem_ready.1 hj
      have hiun : listed.getD i false = false := by
        have h0 := (mem_ready.1 hr).1
        rcases Nat.lt_or_ge i listed.size with h' | h'
        · simp [h'] at h0 ⊢; exact h0
        · simp [Array.getElem?_eq_none h']
      have hnot : ∀ e ∈ oj.after, Region.binds md e = true → e.on ≠ i := fun e he hb heq => by
        have h1 := hall e he hb
        rw [heq, hiun] at h1
        cases h1
      have h2 := wpOp_putIf hoj (hfree j oj hoj hji hjun hnot) (fun cs b => hsel i oi cs b hi) (fun cs b => hsel j oj cs b hoj) hQ hy h1
      have hfree' : ∀ k ok, ops[k]? = some ok → k ≠ i → (listed.setIfInBounds j true).getD k true = false →
          (∀ e ∈ ok.after, Region.binds md e = true → e.on ≠ i) → oi.apart ops ok = true := fun k ok hk hki hun hno => by
        refine hfree k ok hk hki ?_ hno
        by_cases hjk : j = k
        · subst hjk; exact hjun
        · rw [getD_set_ne true hjk] at hun; exact hun
      have hpj : s = true → big oj = false := fun e => by
        have h4 := List.all_eq_true.1 (hs e) j (List.mem_range.2 (by
          rcases Nat.lt_or_ge j ops.size with h' | h'
          · exact h'
          · rw [Array.getElem?_eq_none h'] at hoj; cases hoj))
        rw [hoj] at h4
        simp only [Bool.or_eq_true, Bool.not_eq_true'] at h4
        rcases h4 with h4 | h4
        · exact h4
        · exfalso
          generalize hd : ops.size = d at h4
          cases d with
          | zero => simp [upB] at h4
          | succ d =>
            unfold upB at h4
            rw [hoj] at h4
            simp only [Array.any_eq_true', Bool.and_eq_true, Bool.or_eq_true, beq_iff_eq] at h4
            obtain ⟨ed, hed, hb, h4⟩ := h4
            rcases h4 with h4 | h4
            · exact hnot ed hed hb h4
            · have h5 := closed_up hcl hiun d _ h4
              rw [hall ed hed hb] at h5
              cases h5
      refine wpOp_mono (fun a' w' h3 => ⟨h3.2.1, ih (listed.setIfInBounds j true) a' w' (closed_set hcl hj) hfree' (ready_mono hr (Ne.symm hji)) (yields_onT (U := U) ht hvt h3.1 h3.2.1.2 (fun e => h3.2.1.1 oj hoj (hpj e))) ?_⟩) h2
      rw [Array.setIfInBounds_comm _ _ hji]
      exact h3.2.2

/-- One operation, what follows behind a variable. -/
def lexOpT (P : Program) (ops : Array Oper) (U V : World → World → Prop) (Q : Exit → Act → World → Prop) (s : Bool) (o : Oper) (K : Act → World → Prop) (a : Act) (w : World) : Prop :=
  if pureKind o then ∃ v, YieldsIf P ops (AtT U V s w) o v a ∧ K (a.put o.dst v) w
  else if Region.wanted o (yielded ops a.tmps) then o.wp P a w (fun a' w' => (if big o then U w w' else V w w') ∧ K a' w') Q else K (a.put o.dst undef) w
def wpLexT (P : Program) (ops : Array Oper) (U V : World → World → Prop) (Q : Exit → Act → World → Prop) : List (Bool × Oper) → Act → World → Prop
  | [], a, w => Q .normal a w
  | (s, o) :: rest, a, w => lexOpT P ops U V Q s o (wpLexT P ops U V Q rest) a w
def inOrderT (ops : Array Oper) (order : List (Nat × Bool)) : List (Bool × Oper) := order.filterMap fun p => (ops.toList[p.1]?).map fun o => (p.2, o)
def surelyT (md : Region.Mode) (ops : Array Oper) (order : List (Nat × Bool)) : Bool := order.all fun p => !p.2 || sureT md ops p.1
theorem wpAnyT_of_lex (hr0 : ∀ w, U w w) (ht : ∀ a b c, U a b → U b c → U a c) (hv0 : ∀ w, V w w) (hvt : ∀ a b c, V a b → V b c → V a c) (hvu : ∀ a b, V a b → U a b) (hsel : Region.noSelect ops = true) (hQ : ∀ c (a a' : Act) w, Q (.panic c) a' w → Q (.panic c) a w) : ∀ (order : List (Nat × Bool)) (listed : Array Bool) (a : Act) (w : World), Closed md ops listed →
    lexOk md ops (order.map (·.1)) listed = true → surelyT md ops order = true → wpLexT P ops U V Q (inOrderT ops order) a w → wpAnyT P md ops Q U V order.length listed a w := by
  intro order
  induction order with
  | nil =>
    intro listed a w _ hc _ h
    simp only [List.map_nil, lexOk, List.isEmpty_iff] at hc
    exact ⟨hc, h⟩
  | cons p rest ih =>
    obtain ⟨i, s⟩ := p
    intro listed a w hcl hc hsu h
    have hsu : (!s || sureT md ops i) = true ∧ surelyT md ops rest = true := by simpa [surelyT] using hsu
    rw [List.map_cons] at hc
    unfold lexOk at hc
    cases ho : ops[i]? with
    | none => rw [ho] at hc; cases hc
    | some o =>
      have e : inOrderT ops ((i, s) :: rest) = (s, o) :: inOrderT ops rest := by
        unfold inOrderT
        rw [List.filterMap_cons, Array.getElem?_toList, ho]
        rfl
      rw [e] at h
      rw [ho] at hc
      simp only [Bool.and_eq_true] at hc
      obtain ⟨⟨h1, h2⟩, h3⟩ := hc
      have hir : i ∈ Region.ready md ops listed := by simpa using h1
      unfold wpLexT lexOpT at h
      by_cases hp : pureKind o = true
      · rw [if_pos hp] at h2 h
        obtain ⟨v, hy, hrest⟩ := h
        exact wpAnyT_first hr0 ht hv0 hvt (s := s) (fun e => by have := hsu.1; rw [e] at this; simpa using this) ho (Region.noSelect_spec hsel) (fun c a w => hQ c a _ w) rest.length listed a w hcl (Region.free_spec ho h2) hir hy (ih _ _ _ (closed_set hcl hir) h3 hsu.2 hrest)
      · rw [if_neg hp] at h2 h
        have hr : Region.ready md ops listed = [i] := by simpa using h2
        refine ⟨(fun h0 => by (rw [hr] at h0; cases h0)), fun j hj => ?_⟩
        rw [hr] at hj
        obtain rfl : j = i := by simpa using hj
        unfold wpOp
        rw [ho]
        by_cases hw : Region.wanted o (yielded ops a.tmps) = true
        · simp only [hw, if_true] at h ⊢
          refine .inl (Oper.wp_mono (fun a' w' ⟨hu, hk⟩ => ?_) h)
          by_cases hb : big o = true
          · rw [if_pos hb] at hu
            exact ⟨⟨fun o' ho' hb' => (by injection ho' with ho'; rw [ho'] at hb; rw [hb] at hb'; cases hb'), hu⟩, ih _ _ _ (closed_set hcl hir) h3 hsu.2 hk⟩
          · rw [if_neg hb] at hu
            exact ⟨⟨fun o' ho' _ => hu, hvu _ _ hu⟩, ih _ _ _ (closed_set hcl hir) h3 hsu.2 hk⟩
        · simp only [hw] at h ⊢
          exact ⟨⟨fun _ _ _ => hv0 _, hr0 _⟩, ih _ _ _ (closed_set hcl hir) h3 hsu.2 h⟩
/-- THE BEGINNING. -/
theorem wp_region_lexT (U V : World → World → Prop) (hr0 : ∀ w, U w w) (ht : ∀ a b c, U a b → U b c → U a c) (hv0 : ∀ w, V w w) (hvt : ∀ a b c, V a b → V b c → V a c) (hvu : ∀ a b, V a b → U a b) {id : Nat} {a : Act} {w : World} (order : List (Nat × Bool)) (hm : P.follows .mixedOrders = true) (hsel : Region.noSelect ops = true) (hlen : order.length = ops.size) (hc : lexOk .any ops (order.map (·.1)) (Array.replicate ops.size false) = true) (hsu : surelyT .any ops order = true)
    (h : wpLexT P ops U V (NoPanic Q) (inOrderT ops order) a w.drew) : (Code.region id ops true).wp P Q a w := by
  refine wp_region_noPanic (wp_region_any hm (wpAny_of_T (U := U) (V := V) _ _ _ _ ?_))
  rw [← hlen]
  refine wpAnyT_of_lex hr0 ht hv0 hvt hvu hsel (fun c a a' w h => h) order _ a _ (fun j o ho hl => ?_) (by rw [hlen]; exact hc) hsu h
  exfalso
  rcases Nat.lt_or_ge j order.length with h' | h'
  · simp [h'] at hl
  · simp [Nat.not_lt.2 h'] at hl
theorem lexT_sure {rest : List (Bool × Oper)} {a : Act} {w : World} {o : Oper} {v : Value} (hp : pureKind o = true) (hw : Region.wanted o (yielded ops a.tmps) = true)
    (hy : ∀ w', V w w' → (execOp a.eval o).run P w' = .ok (.value v) w') (h : wpLexT P ops U V Q rest (a.put o.dst v) w) : wpLexT P ops U V Q ((true, o) :: rest) a w := by
  unfold wpLexT lexOpT
  simp only [hp, if_true]
  exact ⟨v, .inl ⟨hw, fun x hx => hy x (hx.2 rfl)⟩, h⟩
theorem lexT_pure {s : Bool} {rest : List (Bool × Oper)} {a : Act} {w : World} {o : Oper} {v : Value} (hp : pureKind o = true) (hw : Region.wanted o (yielded ops a.tmps) = true)
    (hy : ∀ w', U w w' → (execOp a.eval o).run P w' = .ok (.value v) w') (h : wpLexT P ops U V Q rest (a.put o.dst v) w) : wpLexT P ops U V Q ((s, o) :: rest) a w := by
  unfold wpLexT lexOpT
  simp only [hp, if_true]
  exact ⟨v, .inl ⟨hw, fun x hx => hy x hx.1⟩, h⟩
theorem lexT_skip {s : Bool} {rest : List (Bool × Oper)} {a : Act} {w : World} {o : Oper} (hw : Region.wanted o (yielded ops a.tmps) = false)
    (h : wpLexT P ops U V Q rest (a.put o.dst undef) w) : wpLexT P ops U V Q ((s, o) :: rest) a w := by
  unfold wpLexT lexOpT
  split
  · exact ⟨undef, .inr ⟨hw, rfl⟩, h⟩
  · simp only [hw]
    exact h
/-- An allocation, a call. -/
theorem lexT_call {s : Bool} {rest : List (Bool × Oper)} {a : Act} {w : World} {o : Oper} (hp : pureKind o = false) (hb : big o = false) (hw : Region.wanted o (yielded ops a.tmps) = true)
    (h : Oper.wp P o a w (fun a' w' => V w w' ∧ wpLexT P ops U V Q rest a' w') Q) : wpLexT P ops U V Q ((s, o) :: rest) a w := by
  unfold wpLexT lexOpT
  simp only [hp, hw, hb, if_true]
  exact h
theorem lexT_run {s : Bool} {rest : List (Bool × Oper)} {a : Act} {w w' : World} {o : Oper} {v : Value} (hp : pureKind o = false) (hb : big o = false) (hw : Region.wanted o (yielded ops a.tmps) = true)
    (hr : (execOp a.eval o).run P w = .ok (.value v) w') (hu : V w w') (h : wpLexT P ops U V Q rest (a.put o.dst v) w') : wpLexT P ops U V Q ((s, o) :: rest) a w := by
  refine lexT_call hp hb hw ?_
  unfold Oper.wp
  rw [hr]
  exact ⟨hu, h⟩
/-- A call of a Go function that is known. -/
theorem lexT_fn {s : Bool} {rest : List (Bool × Oper)} {a : Act} {w : World} {o : Oper} {f : FuncId} {args : Array Value} (hp : pureKind o = false) (hb : big o = false) (hw : Region.wanted o (yielded ops a.tmps) = true)
    (hr : (execOp a.eval o).run P w = .ok (.enter f args) w)
    (h : Calls P f args w fun e w' => ∃ v, e = .returned v ∧ V w w' ∧ wpLexT P ops U V Q rest (a.put o.dst v) w') : wpLexT P ops U V Q ((s, o) :: rest) a w := by
  refine lexT_call hp hb hw ?_
  unfold Oper.wp
  rw [hr]
  simp only [Oper.upon]
  exact h.mono fun e w' ⟨v, he, hu, hk⟩ => by subst he; exact ⟨hu, hk⟩
theorem lexT_done {a : Act} {w : World} (h : Q .normal a w) : wpLexT P ops U V (NoPanic Q) [] a w := h
/-- A store. -/
theorem lexT_store {s : Bool} {rest : List (Bool × Oper)} {a : Act} {w w' : World} {o : Oper} (hp : pureKind o = false) (hb : big o = true) (hw : Region.wanted o (yielded ops a.tmps) = true)
    (hr : (execOp a.eval o).run P w = .ok .skip w') (hu : U w w') (h : wpLexT P ops U V Q rest (a.put o.dst undef) w') : wpLexT P ops U V Q ((s, o) :: rest) a w := by
  unfold wpLexT lexOpT
  simp only [hp, hw, hb, if_true]
  unfold Oper.wp
  simp only [Bool.false_eq_true, if_false]
  rw [hr]
  exact ⟨hu, h⟩
end
end Go.Proofs.YtjkojhebgkgdaaaDoor.Base
