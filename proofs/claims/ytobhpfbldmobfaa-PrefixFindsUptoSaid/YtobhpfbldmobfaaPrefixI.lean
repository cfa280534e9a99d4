/-
  The walk of almshouselaw24.fixed: it returns true and turns nothing that there was. Conditions: none.
-/
import Derived.Test.YtobhpfbldmobfaaPrefixH
namespace Go.Proofs.Ytobhpfbldmobfaa.PrefixI
open Go.RowKit Go.Proofs.Ytobhpfbldmobfaa.Base Go.Proofs.Ytobhpfbldmobfaa.Prefix Go.Proofs.Ytobhpfbldmobfaa.PrefixF Go.Proofs.Ytobhpfbldmobfaa.PrefixG Go.Proofs.Ytobhpfbldmobfaa.PrefixH
set_option linter.unusedVariables false
def chs : List Ch := [(0, ⟨#[97]⟩), (1, ⟨#[98]⟩), (0, ⟨#[97]⟩)]
theorem ms1 : (ms [⟨#[]⟩, ⟨#[]⟩] chs [⟨#[97]⟩, ⟨#[98]⟩] 4).head? = some 2 := by decide +kernel
theorem ms2 : (ms [⟨#[]⟩, ⟨#[]⟩] chs [⟨#[97]⟩, ⟨#[98]⟩] 4).getLast? = some 3 := by decide +kernel
theorem ms3 : (ms [⟨#[]⟩, ⟨#[]⟩] chs [⟨#[]⟩, ⟨#[98]⟩] 4).head? = none := by decide +kernel
theorem find_lit (g b1 b2 : Nat) (p1 p2 n1 n2 : ByteArray) (W : World) (hC : Arg W (some ⟨g, 0, none⟩) 2 cc chs) (e1 : b1 = W.heap.size) (e2 : b2 = W.heap.size + 1) (r : Option Nat) (hr : (ms [p1, p2] chs [n1, n2] 4).head? = r) :
    Calls Try.prog 42 #[.slice (some ⟨b1, 0, none⟩) 2 2, .slice (some ⟨g, 0, none⟩) 3 3, .slice (some ⟨b2, 0, none⟩) 2 2] ((W.alloc (.cells #[.string p1, .string p2] 9)).alloc (.cells #[.string n1, .string n2] 9)) (FindR r W) := by
  subst hr e1 e2
  have hU : Upd Nil W ((W.alloc (.cells #[.string p1, .string p2] 9)).alloc (.cells #[.string n1, .string n2] 9)) := ((Upd.refl Nil W).alloc _).alloc _
  have h1 : Arg ((W.alloc (.cells #[.string p1, .string p2] 9)).alloc (.cells #[.string n1, .string n2] 9)) (some ⟨W.heap.size, 0, none⟩) 1 sc [p1, p2] := arg_lit sc_len (blk_alloc (blk_new _ _) _) rfl
  have h2 : Arg ((W.alloc (.cells #[.string p1, .string p2] 9)).alloc (.cells #[.string n1, .string n2] 9)) (some ⟨W.heap.size + 1, 0, none⟩) 1 sc [n1, n2] := by
    have := blk_new (W.alloc (.cells #[.string p1, .string p2] 9)) (.cells #[.string n1, .string n2] 9)
    rw [show (W.alloc (.cells #[.string p1, .string p2] 9)).heap.size = W.heap.size + 1 by simp] at this
    exact arg_lit sc_len this rfl
  exact (find _ _ _ 2 3 2 [p1, p2] chs [n1, n2] _ h1 (hC.upd hU) h2 (by simp) (by unfold maxLen chs; simp)).mono fun e w' ⟨he, hu⟩ => ⟨he, hU.trans hu (fun x hx => .inl hx)⟩
theorem longest_lit (g b1 b2 : Nat) (p1 p2 n1 n2 : ByteArray) (W : World) (hC : Arg W (some ⟨g, 0, none⟩) 2 cc chs) (e1 : b1 = W.heap.size) (e2 : b2 = W.heap.size + 1) (r : Option Nat) (hr : (ms [p1, p2] chs [n1, n2] 4).getLast? = r) :
    Calls Try.prog 43 #[.slice (some ⟨b1, 0, none⟩) 2 2, .slice (some ⟨g, 0, none⟩) 3 3, .slice (some ⟨b2, 0, none⟩) 2 2] ((W.alloc (.cells #[.string p1, .string p2] 9)).alloc (.cells #[.string n1, .string n2] 9)) (FindR r W) := by
  subst hr e1 e2
  have hU : Upd Nil W ((W.alloc (.cells #[.string p1, .string p2] 9)).alloc (.cells #[.string n1, .string n2] 9)) := ((Upd.refl Nil W).alloc _).alloc _
  have h1 : Arg ((W.alloc (.cells #[.string p1, .string p2] 9)).alloc (.cells #[.string n1, .string n2] 9)) (some ⟨W.heap.size, 0, none⟩) 1 sc [p1, p2] := arg_lit sc_len (blk_alloc (blk_new _ _) _) rfl
  have h2 : Arg ((W.alloc (.cells #[.string p1, .string p2] 9)).alloc (.cells #[.string n1, .string n2] 9)) (some ⟨W.heap.size + 1, 0, none⟩) 1 sc [n1, n2] := by
    have := blk_new (W.alloc (.cells #[.string p1, .string p2] 9)) (.cells #[.string n1, .string n2] 9)
    rw [show (W.alloc (.cells #[.string p1, .string p2] 9)).heap.size = W.heap.size + 1 by simp] at this
    exact arg_lit sc_len this rfl
  exact (longest _ _ _ 2 3 2 [p1, p2] chs [n1, n2] _ h1 (hC.upd hU) h2 (by simp) (by unfold maxLen chs; simp)).mono fun e w' ⟨he, hu⟩ => ⟨he, hU.trans hu (fun x hx => .inl hx)⟩
set_option maxHeartbeats 8000000 in
set_option maxRecDepth 100000 in
theorem fixed (w : World) : Calls Try.prog 39 #[] w (RetB true w) := by
  have hc : Arg (w.alloc (.cells #[.int .i64 0, .string ⟨#[97]⟩, .int .i64 1, .string ⟨#[98]⟩, .int .i64 0, .string ⟨#[97]⟩] 62)) (some ⟨w.heap.size, 0, none⟩) 2 cc chs := arg_lit cc_len (blk_new _ _) rfl
  have hU0 : Upd Nil w (w.alloc (.cells #[.int .i64 0, .string ⟨#[97]⟩, .int .i64 1, .string ⟨#[98]⟩, .int .i64 0, .string ⟨#[97]⟩] 62)) := (Upd.refl _ _).alloc _
  go_enter Try.func39, Try.ntmps39
  go_wp2_with fail
  refine (find_lit w.heap.size _ _ ⟨#[]⟩ ⟨#[]⟩ ⟨#[97]⟩ ⟨#[98]⟩ (w.alloc (.cells #[.int .i64 0, .string ⟨#[97]⟩, .int .i64 1, .string ⟨#[98]⟩, .int .i64 0, .string ⟨#[97]⟩] 62)) hc (by simp) (by simp) (some 2) ms1).mono ?_
  rintro e w1 ⟨rfl, hU1⟩
  have hc1 := hc.upd hU1
  go_wp2_with fail
  refine (longest_lit w.heap.size _ _ ⟨#[]⟩ ⟨#[]⟩ ⟨#[97]⟩ ⟨#[98]⟩ w1 hc1 (by simp) (by simp) (some 3) ms2).mono ?_
  rintro e w2 ⟨rfl, hU2⟩
  have hc2 := hc1.upd hU2
  go_wp2_with fail
  refine (find_lit w.heap.size _ _ ⟨#[]⟩ ⟨#[]⟩ ⟨#[]⟩ ⟨#[98]⟩ w2 hc2 (by simp) (by simp) none ms3).mono ?_
  rintro e w3 ⟨rfl, hU3⟩
  have hc3 := hc2.upd hU3
  have hU : Upd Nil w w3 := ((hU0.trans hU1 (fun x hx => .inl hx)).trans hU2 (fun x hx => .inl hx)).trans hU3 (fun x hx => .inl hx)
  go_wp2_with (go_at_call 45; refine (after none (some ⟨w.heap.size, 0, none⟩) 0 3 [] chs w3 (.inl rfl) hc3 (by simp) (by unfold maxLen chs; simp)).mono ?_; rintro e w4 ⟨v, rfl, hv, hU4⟩; obtain ⟨A4, c4, rfl, hc4⟩ := hv.form; have hl0 : (aft [] chs).length = 0 := aft_len chs [])
  trace "end"
  go_ret
  exact ⟨rfl, hU.trans hU4 (fun x hx => .inl hx)⟩
end Go.Proofs.Ytobhpfbldmobfaa.PrefixI
