/-
  A ring of nodes, in plain Lean: who stands behind whom and ahead of whom; cutting one out, putting one first. Conditions: each lemma's own.
-/
import Derived.Test.YtcifkccaiekkeaaCacheP
namespace Go.Proofs.Ytcifkccaiekkeaa.Cache
set_option linter.unusedVariables false
set_option linter.unusedSimpArgs false
def ups {α : Type} (f : Nat → α) (i : Nat) (v : α) : Nat → α := fun x => if x = i then v else f x
theorem ups_same {α : Type} (f : Nat → α) (i : Nat) (v : α) : ups f i v i = v := by simp [ups]
theorem ups_ne {α : Type} (f : Nat → α) {i x : Nat} (v : α) (h : x ≠ i) : ups f i v x = f x := by simp [ups, h]
/-- From a behind all of ns comes e: f tells who is behind, g who is ahead. -/
def Chain (f g : Nat → Nat) : Nat → List Nat → Nat → Prop
  | a, [], e => f a = e ∧ g e = a
  | a, n :: ns, e => (f a = n ∧ g n = a) ∧ Chain f g n ns e
variable {f g : Nat → Nat}
theorem chain_congr {f' g' : Nat → Nat} : ∀ (ns : List Nat) (a e : Nat), (∀ x ∈ a :: ns, f' x = f x) → (∀ x ∈ ns ++ [e], g' x = g x) → Chain f g a ns e → Chain f' g' a ns e
  | [], a, e, hf, hg, h => ⟨(hf a (by simp)).trans h.1, (hg e (by simp)).trans h.2⟩
  | n :: ns, a, e, hf, hg, h => ⟨⟨(hf a (by simp)).trans h.1.1, (hg n (by simp)).trans h.1.2⟩, chain_congr ns n e (fun x hx => hf x (List.mem_cons_of_mem _ hx)) (fun x hx => hg x (by simp at hx ⊢; exact .inr hx)) h.2⟩
theorem chain_mid : ∀ (A : List Nat) (a n e : Nat) (B : List Nat), Chain f g a (A ++ n :: B) e → g n ∈ a :: A ∧ f n ∈ B ++ [e]
  | [], a, n, e, B, h => by
    refine ⟨by simp [h.1.2], ?_⟩
    cases B with
    | nil => simp [h.2.1]
    | cons b B => simp [h.2.1.1]
  | x :: A, a, n, e, B, h => by
    have ⟨h1, h2⟩ := chain_mid A x n e B h.2
    exact ⟨List.mem_cons_of_mem _ h1, h2⟩
theorem chain_split : ∀ (A : List Nat) (a n e : Nat) (B : List Nat), Chain f g a (A ++ n :: B) e → Chain f g a A n ∧ Chain f g n B e
  | [], a, n, e, B, h => ⟨h.1, h.2⟩
  | x :: A, a, n, e, B, h => by
    have ⟨h1, h2⟩ := chain_split A x n e B h.2
    exact ⟨⟨h.1, h1⟩, h2⟩
/-- One is cut out. -/
theorem chain_cut : ∀ (A : List Nat) (a n e : Nat) (B : List Nat), Chain f g a (A ++ n :: B) e → (a :: (A ++ n :: B)).Nodup → e ∉ A ++ n :: B → Chain (ups f (g n) (f n)) (ups g (f n) (g n)) a (A ++ B) e
  | [], a, n, e, B, h, hn, he => by
    obtain ⟨⟨h1, h2⟩, h3⟩ := h
    simp only [List.nil_append, List.nodup_cons, List.mem_cons, not_or] at hn he ⊢
    rw [h2]
    cases B with
    | nil =>
      have h4 : f n = e := h3.1
      refine ⟨?_, ?_⟩
      · rw [ups_same, h4]
      · rw [h4, ups_same]
    | cons b B =>
      have h4 : f n = b := h3.1.1
      rw [h4]
      refine ⟨⟨ups_same _ _ _, ups_same _ _ _⟩, chain_congr B b e (fun x hx => ups_ne _ _ ?_) (fun x hx => ups_ne _ _ ?_) h3.2⟩
      · rintro rfl
        exact hn.1.2 hx
      · rintro rfl
        simp only [List.mem_append, List.mem_singleton] at hx
        rcases hx with hx | hx
        · exact (List.nodup_cons.1 hn.2.2).1 hx
        · exact he.2 (by simp [hx])
  | x :: A, a, n, e, B, h, hn, he => by
    obtain ⟨⟨h1, h2⟩, h3⟩ := h
    have ⟨m1, m2⟩ := chain_mid A x n e B h3
    have hn2 := (List.nodup_cons.1 hn).2
    have ih := chain_cut A x n e B h3 hn2 (fun hx => he (List.mem_cons_of_mem _ hx))
    have hax : a ∉ x :: (A ++ n :: B) := (List.nodup_cons.1 hn).1
    have hxx : x ∉ A ++ n :: B := (List.nodup_cons.1 hn2).1
    refine ⟨⟨?_, ?_⟩, ih⟩
    · rw [ups_ne _ _ (fun e2 => ?_), h1]
      rw [e2] at hax
      exact hax (by simp at m1 ⊢; rcases m1 with m1 | m1 <;> simp [m1])
    · rw [ups_ne _ _ (fun e2 => ?_), h2]
      rw [← e2] at m2
      simp only [List.mem_append, List.mem_singleton] at m2
      rcases m2 with m2 | m2
      · exact hxx (by simp [m2])
      · exact he (by simp [m2])
/-- One is put first. -/
theorem chain_first {a n : Nat} {ns : List Nat} (h : Chain f g a ns a) (hn : (n :: a :: ns).Nodup) : Chain (ups (ups f n (f a)) a n) (ups (ups g n a) (f a) n) a (n :: ns) a := by
  have hna : n ≠ a := fun e => (List.nodup_cons.1 hn).1 (by simp [e])
  have hns : n ∉ ns := fun e => (List.nodup_cons.1 hn).1 (by simp [e])
  have hn2 := (List.nodup_cons.1 hn).2
  have has : a ∉ ns := (List.nodup_cons.1 hn2).1
  have hfa : f a ≠ n := by
    rintro rfl
    cases ns with
    | nil => exact hna h.1
    | cons b ns => exact hns (by simp [h.1.1])
  refine ⟨⟨ups_same _ _ _, ?_⟩, ?_⟩
  · rw [ups_ne _ _ hfa.symm, ups_same]
  · cases ns with
    | nil =>
      refine ⟨?_, ?_⟩
      · rw [ups_ne _ _ hna, ups_same, h.1]
      · rw [h.1, ups_same]
    | cons b ns =>
      have hb : f a = b := h.1.1
      refine ⟨⟨?_, ?_⟩, chain_congr ns b a (fun x hx => ?_) (fun x hx => ?_) h.2⟩
      · rw [ups_ne _ _ hna, ups_same, hb]
      · rw [hb, ups_same]
      · rw [ups_ne _ _ (fun e => has (by rw [← e]; exact hx)), ups_ne _ _ (fun e => hns (by rw [← e]; exact hx))]
      · have hxb : x ≠ b := by
          rintro rfl
          simp only [List.mem_append, List.mem_singleton] at hx
          rcases hx with hx | hx
          · exact (List.nodup_cons.1 (List.nodup_cons.1 hn2).2).1 hx
          · exact has (by simp [hx])
        rw [hb, ups_ne _ _ hxb, ups_ne _ _ (fun e => ?_)]
        subst e
        simp only [List.mem_append, List.mem_singleton] at hx
        rcases hx with hx | hx
        · exact hns (by simp [hx])
        · exact hna hx
theorem chain_last : ∀ (ns : List Nat) (a e : Nat), Chain f g a ns e → g e = (a :: ns).getLast (by simp)
  | [], a, e, h => h.2
  | n :: ns, a, e, h => by rw [List.getLast_cons (by simp)]; exact chain_last ns n e h.2
theorem chain_mem : ∀ (ns : List Nat) (a e : Nat), Chain f g a ns e → (∀ x ∈ a :: ns, f x ∈ ns ++ [e]) ∧ (∀ x ∈ ns ++ [e], g x ∈ a :: ns)
  | [], a, e, h => ⟨by simp [h.1], by simp [h.2]⟩
  | n :: ns, a, e, h => by
    have ⟨h1, h2⟩ := chain_mem ns n e h.2
    refine ⟨fun x hx => ?_, fun x hx => ?_⟩
    · rcases List.mem_cons.1 hx with rfl | hx
      · simp [h.1.1]
      · exact List.mem_cons_of_mem _ (h1 x hx)
    · rcases List.mem_cons.1 hx with rfl | hx
      · simp [h.1.2]
      · exact List.mem_cons_of_mem _ (h2 x hx)
end Go.Proofs.Ytcifkccaiekkeaa.Cache
