/-
  A group's word. Conditions: none.
-/
import Derived.Test.YtenhimaclecdpaaDoorEccE
import Derived.Test.YtenhimaclecdpaaDoorEccC
import Derived.Laws.Rows
import Derived.Deep.WholeRow
namespace Go.Proofs.YtenhimaclecdpaaDoor.Ecc
open Go.RowKit Go.Proofs.YtenhimaclecdpaaDoor.Base
set_option linter.unusedVariables false
set_option linter.unusedSimpArgs false
set_option maxRecDepth 100000
/-- A group's cells. -/
def gC (G : List Nat) : Array Value := (G.map fun n => Value.int .u8 (n : Nat)).toArray
theorem gC_size (G : List Nat) : (gC G).size = G.length := by simp [gC]
theorem gC_get {G : List Nat} {i : Nat} (h : i < G.length) : (gC G)[i]? = some (.int .u8 (G[i] : Nat)) := by simp [gC, h]
theorem gC_one (G : List Nat) : (gC G).all (·.oneCell') = true := by
  simp [gC, Value.oneCell']
theorem arr8 (c : Array Value) (h : c.size = 8) : #[c[0], c[1], c[2], c[3], c[4], c[5], c[6], c[7]] = c := by
  obtain ⟨l⟩ := c
  have h : l.length = 8 := h
  obtain ⟨a, b, d, e, f, g, i, j, rfl⟩ := len8 l h
  rfl
theorem shl_u64 (b i : Nat) (hb : b < 256) (hi : i < 8) : IntKind.u64.wrap ((b : Int) * 2 ^ (8 * i)) = ((b * 256 ^ i : Nat) : Int) := by
  have e : (256 : Nat) ^ i = 2 ^ (8 * i) := by rw [Nat.pow_mul]
  have h1 : b * 256 ^ i < 256 ^ 8 := by
    have h2 : (256 : Nat) ^ i ≤ 256 ^ 7 := Nat.pow_le_pow_right (by omega) (by omega)
    calc b * 256 ^ i ≤ 255 * 256 ^ 7 := Nat.mul_le_mul (by omega) h2
      _ < 256 ^ 8 := by decide
  rw [e] at h1 ⊢
  rw [show ((b : Int) * 2 ^ (8 * i)) = ((b * 2 ^ (8 * i) : Nat) : Int) by push_cast; rfl]
  exact wr64 _ (by simpa using h1)
theorem ix8 {c : Array Value} {i b : Nat} (hi : i < 8) (hx : c[i]? = some (.int .u8 b)) (w : World) : (Instr.index 22 (.agg c) (.int .i64 i)).run Tryd.prog w = .ok (.int .u8 b) w := by
  simp [Instr.index, go_sem, run_underlying Tryd.underlying22, hi, hx]
set_option maxHeartbeats 4000000 in
theorem wordC (G : List Nat) (hG : G.length = 8) (hb : ∀ a ∈ G, a < 256) (w : World) : Calls Tryd.prog 17 #[.agg (gC G)] w fun e w' => e = .returned (.int .u64 (wdN G : Nat)) ∧ Upd Nil w w' := by
  have hs : (gC G).size = 8 := by rw [gC_size, hG]
  have hone := gC_one G
  have hl := run_loadCellsFrom_new (P := Tryd.prog) w 22 (gC G) 8 hs
  have hget : ∀ i (h : i < G.length), (gC G)[i]? = some (.int .u8 (G[i] : Nat)) := fun i h => gC_get h
  generalize gC G = c at *
  have hua := (Upd.refl Nil w).alloc (.cells c 22)
  have hpk := Lib.hid (And.intro hG (And.intro hb hget))
  clear hb hget
  go_enter Tryd.func17, Tryd.ntmps17
  go_upto_region 3 with fail
  rw [arr8 c hs]
  clear hl hone
  generalize w.alloc (.cells c 22) = wa at *
  go_loopw [3, 7] (fun s3 s7 wr => ∃ i : Nat, i ≤ 8 ∧ s7 = .int .i64 (i : Int) ∧ s3 = .int .u64 (wdN (G.take i) : Nat) ∧ wr = wa) (fun _ s7 _ => 8 - (intOf s7).toNat)
  case atStart => exact ⟨0, by omega, rfl, rfl, rfl⟩
  case round =>
    obtain ⟨i, hi, rfl, rfl, rfl⟩ := hrel
    by_cases hlt : i < 8
    · have hI : (i : Int) < 8 := by omega
      have hGi : i < G.length := by omega
      have hx := hpk.out.2.2 i hGi
      have hbi := hpk.out.2.1 _ (List.getElem_mem hGi)
      have hwt := wd_take hGi
      have hvl := wd_lt (G.take i) (fun a ha => hpk.out.2.1 a (List.mem_of_mem_take ha))
      rw [List.length_take_of_le (by omega)] at hvl
      generalize G[i] = b at *
      generalize wdN (G.take i) = v at *
      have hwH := Lib.hid hwt
      have hix := ix8 hlt hx
      clear hwt
      have h8 : v + b * 256 ^ i < 18446744073709551616 := by
        have h2 : (256 : Nat) ^ (i + 1) ≤ 256 ^ 8 := Nat.pow_le_pow_right (by omega) (by omega)
        rw [Nat.pow_succ] at h2
        have h3 : b * 256 ^ i ≤ 255 * 256 ^ i := Nat.mul_le_mul_right _ (by omega)
        have h4 : (256 : Nat) ^ 8 = 18446744073709551616 := by decide
        omega
      have hor : bits BinOp.or IntKind.u64 (v : Int) (IntKind.u64.wrap ((b : Int) * 2 ^ (8 * i))) = ((v + b * 256 ^ i : Nat) : Int) := by
        rw [shl_u64 b i hbi hlt, bits_or_u64_nat v _ (by omega) (by omega), or_shl hvl]
      have horH := Lib.hid hor
      clear hor h8 hvl hx
      go_upto_region 6 with fail
      rw [horH.out, ← hwH.out]
      go_wp2_with fail
      go_roundw
      case measure => simp [intOf]; omega
      case rel => exact ⟨i + 1, by omega, by go_num, rfl, trivial⟩
    · obtain rfl : i = 8 := by omega
      rw [List.take_of_length_le (by omega)]
      go_wp2_with fail
      go_ret
      exact ⟨rfl, hua⟩
end Go.Proofs.YtenhimaclecdpaaDoor.Ecc
