/-
  Maps of whole numbers, that the call has made, in a drawn region; a pair of numbers as a key. Conditions: each lemma's own.
-/
import Derived.Test.YtcifkccaiekkeaaProg
import Derived.Test.YtcifkccaiekkeaaInts
import Derived.Test.YtcifkccaiekkeaaLexW
import Derived.Maps.Own
import Derived.Maps.OwnOps
import Derived.Maps.Views
import Derived.DeepKeys4
import Derived.KernelRfl
namespace Go.Proofs.Ytcifkccaiekkeaa.Base
open Go.RowKit
section
variable {P : Program} {ops : Array Oper} {Q : Exit → Act → World → Prop} {S0 : Nat → Prop}
theorem lexW_look {U : World → World → Prop} {s : Bool} {rest : List (Bool × Oper)} {a : Act} {w : World} {o : Oper} {v : Value} (m x : Operand) (t : TypeId) (hop : o.op = Op.lookup t m x false) (hw : Region.wanted o (yielded ops a.tmps) = true)
    (hrun : ∀ w', U w w' → (Instr.lookup t (a.eval m) (a.eval x) false).run P w' = .ok v w') (h : wpLexW P ops U Q rest (a.put o.dst v) w) : wpLexW P ops U Q ((s, o) :: rest) a w := by
  refine lexW_pure (by unfold pureKind; rw [hop]) hw (fun w' hu => ?_) h
  simp [execOp, hop, hrun w' hu, Result.andThen]
theorem lexW_mapu {U : World → World → Prop} {s : Bool} {rest : List (Bool × Oper)} {a : Act} {w w' : World} {o : Oper} (m x v : Operand) (t : TypeId) (hop : o.op = Op.mapUpdate t m x v) (hw : Region.wanted o (yielded ops a.tmps) = true)
    (hrun : (Instr.mapUpdate t (a.eval m) (a.eval x) (a.eval v)).run P w = .ok () w') (hU : U w w') (h : wpLexW P ops U Q rest (a.put o.dst undef) w') : wpLexW P ops U Q ((s, o) :: rest) a w := by
  refine lexW_call (by unfold pureKind; rw [hop]) hw ?_
  unfold Oper.wp
  simp [execOp, hop, hrun, Result.andThen]
  exact ⟨hU, h⟩
end
end Go.Proofs.Ytcifkccaiekkeaa.Base
namespace Go.Proofs.Ytcifkccaiekkeaa.Maps
open Go.RowKit Go.Proofs.Ytcifkccaiekkeaa.Base Go.Maps
set_option linter.unusedVariables false
/-- A map of numbers: what stands at each key. -/
def MapI {ι : Type} (w : World) (K : TypeId) (kl : ι → Lit) (B n : Nat) (f : ι → Int) : Prop :=
  ∃ D : DataW Nat, w.ownsMap Try.prog K (plainElem Try.prog 3) B n D ∧ IsMap D ∧ ∀ i, D.atKey (kl i) (.lit (.int .i64 0)) = .lit (.int .i64 (f i))
section
variable {ι : Type} {w w' : World} {K : TypeId} {kl : ι → Lit} {B n : Nat} {f : ι → Int}
theorem MapI.upd (h : MapI w K kl B n f) {S : Nat → Prop} (u : Upd S w w') (hn : ¬ S B) : MapI w' K kl B n f := by
  obtain ⟨D, ⟨es, clock, hb, r⟩, h2⟩ := h
  exact ⟨D, ⟨es, clock, u.blk hb hn, r⟩, h2⟩
theorem MapI.lt (h : MapI w K kl B n f) : B < w.heap.size := by
  obtain ⟨D, h1, _⟩ := h
  exact h1.lt
theorem MapI.ne (h : MapI w K kl B n f) {b : Nat} {cs : Array Value} {t : TypeId} {fr : Nat × Nat} (hb : w.heap[b]? = some (.cells cs t fr)) : B ≠ b := by
  rintro rfl
  obtain ⟨D, ⟨es, clock, hb2, r⟩, h2⟩ := h
  rw [hb] at hb2
  cases hb2
theorem MapI.new (w : World) (K : TypeId) (kl : ι → Lit) : MapI (w.alloc (.map #[] 0)) K kl w.heap.size 0 (fun _ => 0) :=
  ⟨.map [], World.ownsMap_made _ _ _ _, isMap_empty, fun _ => rfl⟩
theorem zeroI (w : World) : (zeroValue 3).run Try.prog w = .ok (.int .i64 0) w := by kernel_rfl
theorem MapI.look (h : MapI w K kl B n f) (L : Keyed Try.prog K) {t : TypeId} (ht : Try.prog.underlying t = some (.map K 3)) (i : ι) {key : Value} (hkey : keyOf Try.prog K key = some (kl i)) :
    (Instr.lookup t (.map (some B)) key false).run Try.prog w = .ok (.int .i64 (f i)) w := by
  obtain ⟨D, h1, _, h3⟩ := h
  obtain ⟨c, h4, h5, _⟩ := h1.lookup_int L ht Try.underlying3 (zeroI w) hkey
  have h5 := (h3 i).symm.trans h5
  simp only [DataW.lit.injEq, Lit.int.injEq, true_and] at h5
  rw [h5]
  exact h4
theorem MapI.put [DecidableEq ι] (h : MapI w K kl B n f) (L : Keyed Try.prog K) (hinj : ∀ i j, kl i = kl j → i = j) (hk : ∀ i, WideAt.IsKeyLit (kl i)) {t : TypeId} (ht : Try.prog.underlying t = some (.map K 3)) (hn : n < 1000000) (i : ι) {key : Value} (hkey : keyOf Try.prog K key = some (kl i)) (v : Int) (hv : (Lit.int .i64 v).wf = true) :
    ∃ w', (Instr.mapUpdate t (.map (some B)) key (.int .i64 v)).run Try.prog w = .ok () w' ∧ MapI w' K kl B (n + 1) (fun j => if j = i then v else f j) ∧ Upd (Only B) w w' := by
  obtain ⟨D, h1, h2, h3⟩ := h
  obtain ⟨w', h4, h5, h6⟩ := h1.update L ht (by unfold maxLen; omega) hkey (plainElem_int Try.underlying3 hv)
  refine ⟨w', h4, ⟨_, h5, h2.put _ _, fun j => ?_⟩, ⟨h6.os, h6.output, h6.size, fun k hk hn => h6.block k hk (fun e => hn (by injection e))⟩⟩
  show _ = DataW.lit (.int .i64 (if j = i then v else f j))
  by_cases e : j = i
  · subst e
    rw [if_pos rfl, atKey_put_same h2 (hk j)]
  · rw [if_neg e, atKey_put_other (fun e2 => e (hinj _ _ e2))]
    exact h3 j
end
end Go.Proofs.Ytcifkccaiekkeaa.Maps
