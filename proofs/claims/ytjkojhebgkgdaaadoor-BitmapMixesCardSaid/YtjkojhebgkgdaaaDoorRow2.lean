/-
  append, and what the elder slice still holds. Conditions: each lemma's own.
-/
import Derived.Test.YtjkojhebgkgdaaaDoorRow
import Derived.Test.YtjkojhebgkgdaaaDoorBase
import Derived.Deep.AppendSrc
import Derived.Lib.SliceRun
namespace Go.Proofs.YtjkojhebgkgdaaaDoor.Base
open Go.RowKit
section
variable {α : Type} {f : α → List Value} {sz : Nat} {P : Program}
theorem run_app2 {w : World} {base : Nat} {t tx ty e : TypeId} {z : Value} {bytes : Nat} (E : Elem P t e z sz bytes f) {v : Value} {l : List α} (HS : Sl w base e sz f v l) {x : Value} {l2 : List α} (hx : Src P sz tx x l2.length (l2.flatMap f) w)
    (hbytes : (l.length + l2.length) * bytes ≤ 140737488355328) (h63 : l.length + l2.length ≤ maxLen) (hbase : base ≤ w.heap.size) :
    ∃ A' c' w', (Builtin.append_ #[t, tx] ty #[v, x]).run P w = .ok (.slice A' (l.length + l2.length) c') w' ∧ Sl w' base e sz f (.slice A' (l.length + l2.length) c') (l ++ l2) ∧ w.grownBy w' v.ownBlock ∧ ((v = Value.slice A' l.length c' ∨ ∃ b, (Value.slice A' (l.length + l2.length) c').ownBlock = some b ∧ w.heap.size ≤ b) ∧ Sl w' base e sz f v l) := by
  obtain ⟨i, hi, hi2⟩ := Option.map_eq_some_iff.1 E.info
  injection hi2 with e1 e2
  injection e2 with e2 e3
  subst e2 e3
  have hlen : ((l ++ l2).flatMap f).length = (l ++ l2).length * i.size := flat_len E.len _
  have hfl := flat_len E.len l
  have hfl2 := flat_len E.len l2
  have h63' : l.length + l2.length ≤ 9223372036854775807 := by simp only [maxLen] at h63; omega
  have grows : ∀ (old : Nat) (A : Option Addr), old < l.length + l2.length → v = .slice A l.length old → (Builtin.firstCells i.size l.length (.slice A l.length old)).run P w.drew = .ok (l.flatMap f).toArray w.drew →
      ∃ A' c' w', (Builtin.append_ #[t, tx] ty #[v, x]).run P w = .ok (.slice A' (l.length + l2.length) c') w' ∧ Sl w' base e i.size f (.slice A' (l.length + l2.length) c') (l ++ l2) ∧ w.grownBy w' v.ownBlock ∧ ((v = Value.slice A' l.length c' ∨ ∃ b, (Value.slice A' (l.length + l2.length) c').ownBlock = some b ∧ w.heap.size ≤ b) ∧ Sl w' base e i.size f v l) := by
    intro old A ho hv hold
    subst hv
    have hr := run_append_grow_src (P := P) w t tx ty e i z E.ht hi e1 A l.length old (l.flatMap f) hold x l2.length (l2.flatMap f) hx ho (by omega) (growslice_fits (by omega) hbytes)
    have hge := grownCap_ge w (l.length + l2.length) old e
    have hcm : grownCap w (l.length + l2.length) old e ≤ maxLen := grownCap_le_maxLen w _ old e h63
    refine ⟨_, _, _, hr, ⟨hlen, .inr ⟨w.heap.size, 0, _, _, by rw [List.length_append], hbase, blk_new w.drew _, by rw [List.length_append]; exact hge, hcm, ?_, ?_⟩⟩, ⟨rfl, rfl, rfl, by simp, fun k hk _ => Below.heap_alloc w.drew _ k hk⟩, .inr ⟨_, rfl, Nat.le_refl _⟩, HS.move (fun k hk => Below.heap_alloc w.drew _ k (HS.lt k hk))⟩
    · simp only [Array.size_append, List.size_toArray, size_zeroCells, E.hz, List.length_append, hfl, hfl2]
      rw [← Nat.add_mul, ← Nat.add_mul, Nat.zero_add]
      apply Nat.mul_le_mul_right
      omega
    · rw [List.drop_zero, Array.toList_append, ← hlen, List.flatMap_append]
      exact List.take_left
  rcases HS.2 with ⟨h0, rfl⟩ | ⟨g, o, cap, cur, rfl, hg, hh, hnc, hm, hs, ht⟩
  · have hl : l = [] := List.eq_nil_of_length_eq_zero h0
    subst hl
    by_cases hm : l2.length = 0
    · have hl2 : l2 = [] := List.eq_nil_of_length_eq_zero hm
      subst hl2
      refine ⟨none, 0, w, ?_, Sl.nil _ _ _ _ _, ⟨rfl, rfl, rfl, Nat.le_refl _, fun _ _ _ => rfl⟩, .inl rfl, Sl.nil _ _ _ _ _⟩
      have h1 := hx.len
      have h2 := hx.cells
      simp only [List.length_nil] at h1 h2
      rcases hx.kind with ⟨e', hk⟩ | hk <;> simp [Builtin.append_, run_underlying E.ht, run_underlying hk, sizeOf, typeInfo, hi, h1, h2]
    · exact grows 0 none (by simp; omega) rfl (by simp [Builtin.firstCells])
  · by_cases hroom : l.length + l2.length ≤ cap
    · have hfit : o + l.length * i.size + (l2.flatMap f).length ≤ cur.size := by
        rw [hfl2]
        have := Nat.mul_le_mul_right i.size hroom
        rw [Nat.add_mul] at this
        omega
      have hr := run_append_room_src (P := P) w t tx ty e i E.ht hi g o l.length cap x l2.length (l2.flatMap f) hx hroom
        (fun j hj => by rw [blk_cell hh]; simp; omega) (fun j hj => blk_frozen hh _)
      obtain ⟨cur', k1, k2, k3⟩ := setc_row (l2.flatMap f) (o + l.length * i.size) w cur hh hfit
      obtain ⟨s1, s2, s3, s4⟩ := setc_same g (l2.flatMap f) (o + l.length * i.size) w
      have hres : Sl (w.setCells g (o + l.length * i.size) (l2.flatMap f)) base e i.size f (.slice (some ⟨g, o, none⟩) (l.length + l2.length) cap) (l ++ l2) := by
        refine ⟨hlen, .inr ⟨g, o, cap, cur', by rw [List.length_append], hg, k1, by rw [List.length_append]; exact hroom, hm, by rw [k2]; exact hs, ?_⟩⟩
        have ho : o ≤ cur.toList.length := by rw [Array.length_toList]; omega
        rw [k3, ← hlen, List.flatMap_append, List.append_assoc, List.drop_append_of_le_length (by rw [List.length_take]; omega), List.drop_take, Nat.add_sub_cancel_left, ht, ← List.append_assoc]
        exact List.take_left
      have hold := hres.take E.len (k := l.length) (by simp)
      rw [List.take_left] at hold
      exact ⟨_, _, _, hr, hres, ⟨s1, s2, s3, by rw [s4]; exact Nat.le_refl _, fun k _ hk => setc_far _ _ k (fun he => hk (by rw [he]; rfl))⟩, .inl rfl, hold⟩
    · refine grows cap (some ⟨g, o, none⟩) (by omega) rfl (run_firstCells_some w.drew _ _ _ _ _ _ hfl (fun j u hj => ?_))
      rw [Addr.add_lit]
      exact cells_of hh ht j u hj

end
section
variable {α : Type} {f : α → List Value} {sz : Nat} {P : Program} {ops : Array Oper} {rest : List Oper} {o : Oper} {a : Act} {Q' : Exit → Act → World → Prop}
theorem wp_app2 (base : Nat) (hgd : o.guard = none) (s x : Operand) {t tx e : TypeId} {z : Value} {bytes : Nat} (E : Elem P t e z sz bytes f) (ho : o.op = .call { callee := .builtin .append, args := #[s, x], argTypes := #[t, tx] })
    {W : World} (v : Value) (l l2 : List α) (xv : Value) (hs : a.eval s = v) (hx : a.eval x = xv) (hsrc : Src P sz tx xv l2.length (l2.flatMap f) W) (HS : Sl W base e sz f v l) (hbase : base ≤ W.heap.size) (hl : (l.length + l2.length) * bytes ≤ 140737488355328) (hl2 : l.length + l2.length ≤ maxLen)
    (h : ∀ A1 c1 w1, Sl w1 base e sz f (.slice A1 (l.length + l2.length) c1) (l ++ l2) → W.grownBy w1 v.ownBlock → (v = Value.slice A1 l.length c1 ∨ ∃ b, (Value.slice A1 (l.length + l2.length) c1).ownBlock = some b ∧ W.heap.size ≤ b) → Sl w1 base e sz f v l → wpList P ops Q' rest (a.put o.dst (.slice A1 (l.length + l2.length) c1)) w1) :
    wpList P ops Q' (o :: rest) a W := by
  obtain ⟨A1, c1, w1, hr, h2, h3, h4, h5⟩ := run_app2 (P := P) (ty := o.type) E HS hsrc hl hl2 hbase
  refine wpList_plain hgd fun K hK => ?_
  unfold Oper.wp execOp
  simp only [ho, resolve, invoke, builtin, Sem.run_bind, Sem.run_pure, Result.andThen_ok, List.map_toArray, List.map_cons, List.map_nil, hs, hx, hr]
  exact hK _ _ (h A1 c1 w1 h2 h3 h4 h5)
end
end Go.Proofs.YtjkojhebgkgdaaaDoor.Base
