/-
  Moves are done. Conditions: what the table and the argument's slice hold.
-/
import Derived.Test.YthppheklnplljaaDeltaV
namespace Go.Proofs.Ythppheklnplljaa.Delta
open Go.RowKit Go.Proofs.Ythppheklnplljaa.Base Go.Proofs.Ythppheklnplljaa.Table
set_option linter.unusedVariables false
set_option linter.unusedSimpArgs false
def AplR (F : Nat → Prop) (b : Nat) (r : Int × List Row3) (w : World) (e : Ending) (w' : World) : Prop := e = .returned (.int .i64 r.1) ∧ Tb F w' b r.2 8 8 ∧ Upd F w w'
theorem apl_drop {R : List Row3} {l : List Mv} {i : Nat} (h : i < l.length) : aplV 8 8 R (l.drop i) = if rightM l[i] = false then (1, R) else if l[i].gone then aplV 8 8 (rClr R l[i].place) (l.drop (i + 1))
    else if (setV R 8 8 l[i].place l[i].block l[i].page).1 ≠ 0 then setV R 8 8 l[i].place l[i].block l[i].page else aplV 8 8 (setV R 8 8 l[i].place l[i].block l[i].page).2 (l.drop (i + 1)) := by
  rw [List.drop_eq_getElem_cons h]
  rfl
set_option maxHeartbeats 4000000 in
set_option maxRecDepth 100000 in
theorem applyNil (A : Option Addr) (c : Nat) (l : List Mv) (w : World) (hA : Arg w A 4 mvC l) (hl : l.length ≤ 100) :
    Calls Try.prog 43 #[.pointer none, .slice A l.length c] w (fun e w' => e = .returned (.int .i64 1) ∧ Upd Nil w w') := by
  go_enter Try.func43, Try.ntmps43
  go_wp2_with fail
  go_loopw [10] (fun s10 wr => s10 = .int .i64 0 ∧ Upd Nil w wr) (fun s10 _ => l.length - (intOf s10).toNat)
  case atStart => exact ⟨rfl, Upd.refl _ _⟩
  case round =>
    obtain ⟨rfl, hU⟩ := hrel
    by_cases hlt : 0 < l.length
    · obtain ⟨g, o, rfl, _, e0, e1, e2, e3⟩ := mv_cell (hA.upd hU) hlt
      have hI : (0 : Int) < (l.length : Int) := by omega
      generalize l[0] = mv at *
      obtain ⟨p, q, s, gn⟩ := mv
      simp only [Nat.zero_mul, Nat.add_zero] at e0 e1 e2 e3
      have hVa := hU.alloc (.cells #[.int .i64 p, .int .i64 q, .int .i64 s, .bool gn] 45)
      go_wp2_with fail
      go_ret
      exact ⟨rfl, hVa⟩
    · have hI : ¬ (0 : Int) < (l.length : Int) := by omega
      go_wp2_with fail
      go_ret
      exact ⟨rfl, hU⟩
set_option maxHeartbeats 4000000 in
set_option maxRecDepth 100000 in
theorem applyC (F : Nat → Prop) (b : Nat) (R : List Row3) (A : Option Addr) (c : Nat) (l : List Mv) (w : World) (hT : Tb F w b R 8 8) (hA : ∀ w', Upd F w w' → Arg w' A 4 mvC l) (hF : ∀ x, F x → x < w.heap.size) (hl : l.length ≤ 100) :
    Calls Try.prog 43 #[.pointer (some ⟨b, 0, none⟩), .slice A l.length c] w (AplR F b (aplV 8 8 R l) w) := by
  generalize hr : aplV 8 8 R l = r at *
  have hrH := Lib.hid hr
  clear hr
  go_enter Try.func43, Try.ntmps43
  go_wp2_with fail
  go_loopw [10] (fun s10 wr => ∃ (i : Nat) (R2 : List Row3), i ≤ l.length ∧ s10 = .int .i64 i ∧ Tb F wr b R2 8 8 ∧ Hid (aplV 8 8 R2 (l.drop i) = r) ∧ Upd F w wr) (fun s10 _ => l.length - (intOf s10).toNat)
  case atStart => exact ⟨0, R, by omega, rfl, hT, Lib.hid hrH.out, Upd.refl _ _⟩
  case round =>
    clear hT hrH
    obtain ⟨i, R2, hi, rfl, hT, hr, hU⟩ := hrel
    by_cases hlt : i < l.length
    · obtain ⟨g, o, rfl, _, e0, e1, e2, e3⟩ := mv_cell (hA _ hU) hlt
      have hap := Lib.hid (apl_drop (R := R2) hlt)
      generalize l[i] = mv at *
      obtain ⟨p, q, s, gn⟩ := mv
      simp only at e0 e1 e2 e3 hap
      have hVa := hU.alloc (.cells #[.int .i64 p, .int .i64 q, .int .i64 s, .bool gn] 45)
      have hTa := hT.upd0 ((Upd.refl Nil wr).alloc (.cells #[.int .i64 p, .int .i64 q, .int .i64 s, .bool gn] 45))
      have hba := blk_new wr (.cells #[.int .i64 p, .int .i64 q, .int .i64 s, .bool gn] 45)
      have hNB : ¬ F wr.heap.size := fun h => by have := hF _ h; have := hU.size; omega
      clear hT hU
      go_wp2_with fail
      refine (right ⟨p, q, s, gn⟩ _).mono ?_
      rintro e w3 ⟨rfl, hU3⟩
      have hT3 := hTa.upd0 hU3
      have hV3 := hVa.trans hU3 (fun x hx => hx.elim)
      have hb3 := hU3.blk hba (fun h => h)
      have y0 := blk_cell hb3 0
      have y1 := blk_cell hb3 1
      have y2 := blk_cell hb3 2
      have y3 := blk_cell hb3 3
      simp only [List.getElem?_toArray, List.getElem?_cons_zero, List.getElem?_cons_succ] at y0 y1 y2 y3
      clear hTa hVa hba hU3 hb3
      cases hrm : rightM ⟨p, q, s, gn⟩ with
      | false =>
        have hz := Lib.hid (show (1, R2) = r by rw [← hr.out, hap.out, if_pos hrm])
        clear hrm
        go_wp2_with fail
        go_ret
        rw [← hz.out]
        exact ⟨rfl, hT3, hV3⟩
      | true =>
        cases gn with
        | true =>
          have hz := Lib.hid (show aplV 8 8 (rClr R2 p) (l.drop (i + 1)) = r by rw [← hr.out, hap.out, if_neg (show ¬ rightM ⟨p, q, s, true⟩ = false by rw [hrm]; simp), if_pos rfl])
          clear hrm hap hr
          obtain ⟨gs, v1, v2, hTM⟩ := id hT3
          have hin := hTM.inn
          clear hTM
          go_wp2_with fail
          refine (Table.clear F b R2 8 8 p _ hT3).mono ?_
          rintro e w4 ⟨rfl, hT4, hU4⟩
          rw [← rClr_eq hin] at hT4
          have hV4 := hV3.trans hU4 (fun x hx => .inl hx)
          go_wp2_with fail
          go_roundw
          case measure => simp [intOf]; omega
          case rel => exact ⟨i + 1, _, by omega, by go_num, hT4, Lib.hid hz.out, hV4⟩
        | false =>
          have hz := Lib.hid (show (if (setV R2 8 8 p q s).1 ≠ 0 then setV R2 8 8 p q s else aplV 8 8 (setV R2 8 8 p q s).2 (l.drop (i + 1))) = r by rw [← hr.out, hap.out, if_neg (show ¬ rightM ⟨p, q, s, false⟩ = false by rw [hrm]; simp), if_neg (show ¬ false = true by simp)])
          clear hrm hap hr
          go_wp2_with fail
          refine (Table.set F b R2 8 8 p q s _ hT3).mono ?_
          rintro e w4 ⟨rfl, hT4, hU4⟩
          have hV4 := hV3.trans hU4 (fun x hx => .inl hx)
          generalize setV R2 8 8 p q s = sv at *
          obtain ⟨se, sR⟩ := sv
          simp only at hz hT4 ⊢
          by_cases hse : se = 0
          · have hz2 := Lib.hid (show aplV 8 8 sR (l.drop (i + 1)) = r by rw [← hz.out, if_neg (by simpa using hse)])
            subst hse
            clear hz
            go_wp2_with fail
            go_roundw
            case measure => simp [intOf]; omega
            case rel => exact ⟨i + 1, _, by omega, by go_num, hT4, Lib.hid hz2.out, hV4⟩
          · have hz2 := Lib.hid (show (se, sR) = r by rw [← hz.out, if_pos hse])
            clear hz
            go_wp2_with fail
            go_ret
            rw [← hz2.out]
            exact ⟨rfl, hT4, hV4⟩
    · obtain rfl : i = l.length := by omega
      have hz := Lib.hid (show (0, R2) = r by rw [← hr.out, List.drop_length]; rfl)
      clear hr
      go_wp2_with fail
      go_ret
      rw [← hz.out]
      exact ⟨rfl, hT, hU⟩
end Go.Proofs.Ythppheklnplljaa.Delta
