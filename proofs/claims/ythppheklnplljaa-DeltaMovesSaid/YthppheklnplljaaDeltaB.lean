/-
  A record's bytes: the program's walk. Conditions: what the argument's slice holds.
-/
import Derived.Test.YthppheklnplljaaDeltaA
import Derived.Test.YthppheklnplljaaInts
namespace Go.Proofs.Ythppheklnplljaa.Delta
open Go.RowKit Go.Proofs.Ythppheklnplljaa.Base Go.Proofs.Ythppheklnplljaa.Word Go.Proofs.Ythppheklnplljaa.Frame Go.Proofs.Ythppheklnplljaa.Ints
set_option linter.unusedVariables false
set_option linter.unusedSimpArgs false
def item (m : Mv) : Nat → Int
  | 0 => m.place
  | 1 => m.block
  | 2 => m.page
  | _ => c01 m.gone
def encA (b : List UInt8) (m : Mv) : Nat → List UInt8
  | 0 => b
  | j + 1 => putL (encA b m j) (item m j) 1
theorem encA_len (b : List UInt8) (m : Mv) (j : Nat) : (encA b m j).length ≤ b.length + 4 * j := by
  induction j with
  | zero => exact Nat.le_refl _
  | succ j ih =>
    have := (putL_len (encA b m j) (item m j) 1).2
    show (putL (encA b m j) (item m j) 1).length ≤ _
    omega
theorem mv_cell {w : World} {A : Option Addr} {l : List Mv} (h : Arg w A 4 mvC l) {i : Nat} (hi : i < l.length) : ∃ g o, A = some ⟨g, o, none⟩ ∧ g < w.heap.size ∧ w.cell? ⟨g, o + i * 4, none⟩ = some (.int .i64 l[i].place) ∧ w.cell? ⟨g, o + i * 4 + 1, none⟩ = some (.int .i64 l[i].block) ∧ w.cell? ⟨g, o + i * 4 + 2, none⟩ = some (.int .i64 l[i].page) ∧ w.cell? ⟨g, o + i * 4 + 3, none⟩ = some (.bool l[i].gone) := by
  rcases h with h | ⟨b, off, h1, h2, h3⟩
  · subst h; simp at hi
  · exact ⟨b, off, h1, h2, by simpa [mvC] using h3 i hi 0 (by omega), by simpa [mvC] using h3 i hi 1 (by omega), by simpa [mvC] using h3 i hi 2 (by omega), by simpa [mvC] using h3 i hi 3 (by omega)⟩
theorem ic_at {w : World} {b : Nat} {l : List Int} (h : Arg w (some ⟨b, 0, none⟩) 1 ic l) {i : Nat} (hi : i < l.length) : w.cell? ⟨b, i, none⟩ = some (.int .i64 l[i]) := by
  obtain ⟨g, o, e, _, h⟩ := ic_cell h hi
  injection e with e
  injection e with e1 e2
  subst e1 e2
  simpa using h
theorem lit_item (p q s : Int) (g : Bool) : ∀ j (h : j < 4), ([p, q, s, c01 g] : List Int)[j]'(by simpa using h) = item ⟨p, q, s, g⟩ j
  | 0, _ => rfl
  | 1, _ => rfl
  | 2, _ => rfl
  | 3, _ => rfl
set_option maxHeartbeats 4000000 in
set_option maxRecDepth 100000 in
theorem record (number : Int) (A : Option Addr) (c : Nat) (l : List Mv) (w : World) (hA : Arg w A 4 mvC l) (hl : l.length ≤ 300) :
    Calls Try.prog 32 #[.int .i64 number, .slice A l.length c] w (MkR (recB number l) w) := by
  have q := fun w => withinC number 2147483648 w
  rw [show inR number 2147483648 = numOk number from rfl] at q
  obtain ⟨mx, hmx⟩ : ∃ x, (if number < 0 then 0 else number) = x := ⟨_, rfl⟩
  have hmx2 : max number 0 = mx := by rw [← hmx]; split <;> omega
  have hh0 : recHead number l.length = putL (putL [] mx 4) l.length 1 := by unfold recHead; rw [hmx2]
  have hhl := recHead_len number l.length
  have hfold := fun i => fold_len (l.take i) (recHead number l.length)
  generalize hRR : MkR (recB number l) w = RR
  have hRH := Lib.hid hRR
  have hpk := Lib.hid (And.intro hh0 (And.intro hhl hfold))
  clear hRR hmx2 hh0 hhl hfold
  go_enter Try.func32, Try.ntmps32
  go_wp2_with fail
  refine (q _).mono ?_
  rintro e w1 ⟨rfl, rfl⟩
  go_wp2_with fail
  refine (put none 0 [] mx 4 _ (.inl rfl) (by simp)).mono ?_
  rintro e w2 ⟨v2, rfl, hv2, hU2⟩
  obtain ⟨A2, c2, rfl, hc2⟩ := hv2.form
  have hl2 := (putL_len [] mx 4).2
  simp only [List.length_nil] at hl2
  have hA2 := hv2.cells bc_len (by omega)
  generalize hH0 : putL [] mx 4 = H0 at *
  go_wp2_with fail
  refine (put A2 c2 H0 l.length 1 _ hA2 (by omega)).mono ?_
  rintro e w3 ⟨v3, rfl, hv3, hU3⟩
  have e3 : putL H0 l.length 1 = (l.take 0).foldl encM (recHead number l.length) := by rw [hpk.out.1]; rfl
  rw [e3] at hv3
  have hU03 := hU2.tr hU3
  have hv3 := hv3.lower hU2.size
  have ok0 : (numOk number && (l.take 0).all rightM) = numOk number := by simp
  have hkk := Lib.hid (And.intro ok0 hH0)
  clear hv2 hA2 e3 ok0 hH0 q hmx hl2 hc2
  go_wp2_with fail
  go_loopw [6, 7, 23] (fun s6 s7 s23 wr => ∃ (i : Nat) (V : Value), i ≤ l.length ∧ s23 = .int .i64 (i : Int) ∧ s6 = .bool (numOk number && (l.take i).all rightM) ∧ s7 = V ∧ Sl wr w.heap.size 5 1 bc V ((l.take i).foldl encM (recHead number l.length)) ∧ Upd Nil w wr) (fun _ _ s23 _ => l.length - (intOf s23).toNat)
  case atStart => exact ⟨0, _, by omega, rfl, by rw [hkk.out.1], rfl, hv3, hU03⟩
  case round =>
    clear hv3 hU03 hU2 hU3 hkk
    obtain ⟨i, V, hi, rfl, rfl, rfl, hV, hU⟩ := hrel
    have hsz := hU.size
    by_cases hlt : i < l.length
    · have hft := fold_take hlt (recHead number l.length)
      have hat := all_take hlt rightM
      obtain ⟨g, o, rfl, _, y0, y1, y2, y3⟩ := mv_cell (hA.upd hU) hlt
      have hbl : ((l.take i).foldl encM (recHead number l.length)).length ≤ 5000 := by
        have h1 := hpk.out.2.2 i
        have h2 := hpk.out.2.1
        have h3 : (l.take i).length ≤ 300 := by simp; omega
        omega
      have ht : (numOk number && (l.take (i + 1)).all rightM) = ((numOk number && (l.take i).all rightM) && rightM l[i]) := by rw [hat, Bool.and_assoc]
      generalize (l.take i).foldl encM (recHead number l.length) = B at *
      generalize (numOk number && (l.take i).all rightM) = ok at *
      generalize l[i] = m at *
      have hrm := fun w => right m w
      have hik := Lib.hid (And.intro hft (And.intro ht hbl))
      clear hft ht hat hbl
      have ua := (Upd.refl Nil wr).alloc (.cells #[.int .i64 m.place, .int .i64 m.block, .int .i64 m.page, .bool m.gone] 45)
      have hx := blk_new wr (.cells #[.int .i64 m.place, .int .i64 m.block, .int .i64 m.page, .bool m.gone] 45)
      have hV2 := hV.upd0 ua
      have hU2 := hU.tr ua
      have hB16 : ∀ j, j ≤ 4 → (encA B m j).length ≤ 6000 := fun j hj => by
        have := encA_len B m j
        have := hik.out.2.2
        omega
      generalize hrb : rightM m = rb at *
      obtain ⟨p, q, s, gn, hmm⟩ : ∃ p q s gn, m = ⟨p, q, s, gn⟩ := ⟨m.place, m.block, m.page, m.gone, rfl⟩
      simp only [hmm] at y0 y1 y2 y3 hrm ua hx hV2 hU2
      have hmH := Lib.hid hmm
      clear hmm hrb
      cases ok with
      | false =>
        cases gn with
        | false =>
          as_aux_lemma =>
            go_wp2_with fail
            have hV7 := hV2.alloc (.cells #[.int .i64 p, .int .i64 q, .int .i64 s, .int .i64 0] 3)
            have hU7 := hU2.alloc (.cells #[.int .i64 p, .int .i64 q, .int .i64 s, .int .i64 0] 3)
            have hL7 : Arg ((wr.alloc (.cells #[.int .i64 p, .int .i64 q, .int .i64 s, .bool false] 45)).alloc (.cells #[.int .i64 p, .int .i64 q, .int .i64 s, .int .i64 0] 3)) (some ⟨(wr.heap.size + 1), 0, none⟩) 1 ic [p, q, s, 0] := by
              have h := arg_lit (l := [p, q, s, 0]) ic_len (blk_new (wr.alloc (.cells #[.int .i64 p, .int .i64 q, .int .i64 s, .bool false] 45)) (.cells #[.int .i64 p, .int .i64 q, .int .i64 s, .int .i64 0] 3)) rfl
              have e : (wr.alloc (.cells #[.int .i64 p, .int .i64 q, .int .i64 s, .bool false] 45)).heap.size = (wr.heap.size + 1) := by simp
              rw [e] at h
              exact h
            generalize (wr.alloc (.cells #[.int .i64 p, .int .i64 q, .int .i64 s, .bool false] 45)).alloc (.cells #[.int .i64 p, .int .i64 q, .int .i64 s, .int .i64 0] 3) = w7 at *
            clear y0 y1 y2 y3 hrm ua hx hV2 hU2 hV hU
            obtain ⟨wo, rfl⟩ : ∃ x, x = wr := ⟨wr, rfl⟩
            have hlit := fun j (hj : j < 4) => lit_item p q s false j hj
            rw [← hmH.out] at hlit
            replace hlit := Lib.hid hlit
            go_loopw [7, 12, 43] (fun s7 s12 s43 wr => ∃ (j : Nat) (V : Value), j ≤ 4 ∧ s43 = .int .i64 (j : Int) ∧ s7 = V ∧ Sl wr w.heap.size 5 1 bc V (encA B m j) ∧ Upd Nil w7 wr) (fun _ _ s43 _ => 4 - (intOf s43).toNat)
            case atStart => exact ⟨0, _, by omega, rfl, rfl, hV7, Upd.refl _ _⟩
            case round =>
              clear hV7
              obtain ⟨j, V, hj, rfl, rfl, hVj, hUj⟩ := hrel
              have hszj := (hU7.tr hUj).size
              obtain ⟨Aj, cj, rfl, hcj⟩ := hVj.form
              have hAj := hVj.cells bc_len (by omega)
              have hbj := hB16 j hj
              have hj16 : (encA B m j).length + 4 ≤ 140737488355328 := by omega
              by_cases hj4 : j < 4
              · have y := ic_at (hL7.upd hUj) (i := j) (by simpa using hj4)
                have hv : ([p, q, s, 0] : List Int)[j]'(by simpa using hj4) = item m j := hlit.out j hj4
                rw [hv] at y
                have henc : encA B m (j + 1) = putL (encA B m j) (item m j) 1 := rfl
                generalize encA B m j = Bj at *
                generalize item m j = v at *
                have hencH := Lib.hid henc
                clear henc hv
                go_wp2_with fail
                refine (put Aj cj Bj v 1 _ hAj hj16).mono ?_
                rintro e w9 ⟨v9, rfl, hv9, hU9⟩
                go_wp2_with fail
                go_roundw
                case measure => simp [intOf]; omega
                case rel => exact ⟨j + 1, _, by omega, by go_num, rfl, by rw [hencH.out]; exact hv9.lower hszj, hUj.tr hU9⟩
              · obtain rfl : j = 4 := by omega
                go_wp2_with fail
                go_roundw
                case measure => simp [intOf]; omega
                case rel => exact ⟨i + 1, _, by omega, by go_num, by rw [hik.out.2.1]; rfl, rfl, by rw [hik.out.1]; exact hVj, hU7.tr hUj⟩
        | true =>
          as_aux_lemma =>
            go_wp2_with fail
            have hV7 := hV2.alloc (.cells #[.int .i64 p, .int .i64 q, .int .i64 s, .int .i64 1] 3)
            have hU7 := hU2.alloc (.cells #[.int .i64 p, .int .i64 q, .int .i64 s, .int .i64 1] 3)
            have hL7 : Arg ((wr.alloc (.cells #[.int .i64 p, .int .i64 q, .int .i64 s, .bool true] 45)).alloc (.cells #[.int .i64 p, .int .i64 q, .int .i64 s, .int .i64 1] 3)) (some ⟨(wr.heap.size + 1), 0, none⟩) 1 ic [p, q, s, 1] := by
              have h := arg_lit (l := [p, q, s, 1]) ic_len (blk_new (wr.alloc (.cells #[.int .i64 p, .int .i64 q, .int .i64 s, .bool true] 45)) (.cells #[.int .i64 p, .int .i64 q, .int .i64 s, .int .i64 1] 3)) rfl
              have e : (wr.alloc (.cells #[.int .i64 p, .int .i64 q, .int .i64 s, .bool true] 45)).heap.size = (wr.heap.size + 1) := by simp
              rw [e] at h
              exact h
            generalize (wr.alloc (.cells #[.int .i64 p, .int .i64 q, .int .i64 s, .bool true] 45)).alloc (.cells #[.int .i64 p, .int .i64 q, .int .i64 s, .int .i64 1] 3) = w7 at *
            clear y0 y1 y2 y3 hrm ua hx hV2 hU2 hV hU
            obtain ⟨wo, rfl⟩ : ∃ x, x = wr := ⟨wr, rfl⟩
            have hlit := fun j (hj : j < 4) => lit_item p q s true j hj
            rw [← hmH.out] at hlit
            replace hlit := Lib.hid hlit
            go_loopw [7, 12, 43] (fun s7 s12 s43 wr => ∃ (j : Nat) (V : Value), j ≤ 4 ∧ s43 = .int .i64 (j : Int) ∧ s7 = V ∧ Sl wr w.heap.size 5 1 bc V (encA B m j) ∧ Upd Nil w7 wr) (fun _ _ s43 _ => 4 - (intOf s43).toNat)
            case atStart => exact ⟨0, _, by omega, rfl, rfl, hV7, Upd.refl _ _⟩
            case round =>
              clear hV7
              obtain ⟨j, V, hj, rfl, rfl, hVj, hUj⟩ := hrel
              have hszj := (hU7.tr hUj).size
              obtain ⟨Aj, cj, rfl, hcj⟩ := hVj.form
              have hAj := hVj.cells bc_len (by omega)
              have hbj := hB16 j hj
              have hj16 : (encA B m j).length + 4 ≤ 140737488355328 := by omega
              by_cases hj4 : j < 4
              · have y := ic_at (hL7.upd hUj) (i := j) (by simpa using hj4)
                have hv : ([p, q, s, 1] : List Int)[j]'(by simpa using hj4) = item m j := hlit.out j hj4
                rw [hv] at y
                have henc : encA B m (j + 1) = putL (encA B m j) (item m j) 1 := rfl
                generalize encA B m j = Bj at *
                generalize item m j = v at *
                have hencH := Lib.hid henc
                clear henc hv
                go_wp2_with fail
                refine (put Aj cj Bj v 1 _ hAj hj16).mono ?_
                rintro e w9 ⟨v9, rfl, hv9, hU9⟩
                go_wp2_with fail
                go_roundw
                case measure => simp [intOf]; omega
                case rel => exact ⟨j + 1, _, by omega, by go_num, rfl, by rw [hencH.out]; exact hv9.lower hszj, hUj.tr hU9⟩
              · obtain rfl : j = 4 := by omega
                go_wp2_with fail
                go_roundw
                case measure => simp [intOf]; omega
                case rel => exact ⟨i + 1, _, by omega, by go_num, by rw [hik.out.2.1]; rfl, rfl, by rw [hik.out.1]; exact hVj, hU7.tr hUj⟩
      | true =>
        cases gn with
        | false =>
          as_aux_lemma =>
            go_wp2_with fail
            refine (hrm _).mono ?_
            rintro e w6 ⟨rfl, hU6'⟩
            have hV6 := hV2.upd0 hU6'
            have hU6 := hU2.tr hU6'
            have hx6 := hU6'.blk hx (fun h => h)
            have x0 := blk_cell hx6 0
            have x1 := blk_cell hx6 1
            have x2 := blk_cell hx6 2
            have x3 := blk_cell hx6 3
            simp only [List.getElem?_toArray, List.getElem?_cons_zero, List.getElem?_cons_succ] at x0 x1 x2 x3
            go_wp2_with fail
            have hV7 := hV6.alloc (.cells #[.int .i64 p, .int .i64 q, .int .i64 s, .int .i64 0] 3)
            have hU7 := hU6.alloc (.cells #[.int .i64 p, .int .i64 q, .int .i64 s, .int .i64 0] 3)
            have hL7 : Arg (w6.alloc (.cells #[.int .i64 p, .int .i64 q, .int .i64 s, .int .i64 0] 3)) (some ⟨w6.heap.size, 0, none⟩) 1 ic [p, q, s, 0] := by
              have h := arg_lit (l := [p, q, s, 0]) ic_len (blk_new w6 (.cells #[.int .i64 p, .int .i64 q, .int .i64 s, .int .i64 0] 3)) rfl
              have e : w6.heap.size = w6.heap.size := by simp
              rw [e] at h
              exact h
            generalize w6.alloc (.cells #[.int .i64 p, .int .i64 q, .int .i64 s, .int .i64 0] 3) = w7 at *
            clear y0 y1 y2 y3 hrm ua hx hV2 hU2 hV hU
            obtain ⟨wo, rfl⟩ : ∃ x, x = wr := ⟨wr, rfl⟩
            have hlit := fun j (hj : j < 4) => lit_item p q s false j hj
            rw [← hmH.out] at hlit
            replace hlit := Lib.hid hlit
            go_loopw [7, 12, 43] (fun s7 s12 s43 wr => ∃ (j : Nat) (V : Value), j ≤ 4 ∧ s43 = .int .i64 (j : Int) ∧ s7 = V ∧ Sl wr w.heap.size 5 1 bc V (encA B m j) ∧ Upd Nil w7 wr) (fun _ _ s43 _ => 4 - (intOf s43).toNat)
            case atStart => exact ⟨0, _, by omega, rfl, rfl, hV7, Upd.refl _ _⟩
            case round =>
              clear hV7
              obtain ⟨j, V, hj, rfl, rfl, hVj, hUj⟩ := hrel
              have hszj := (hU7.tr hUj).size
              obtain ⟨Aj, cj, rfl, hcj⟩ := hVj.form
              have hAj := hVj.cells bc_len (by omega)
              have hbj := hB16 j hj
              have hj16 : (encA B m j).length + 4 ≤ 140737488355328 := by omega
              by_cases hj4 : j < 4
              · have y := ic_at (hL7.upd hUj) (i := j) (by simpa using hj4)
                have hv : ([p, q, s, 0] : List Int)[j]'(by simpa using hj4) = item m j := hlit.out j hj4
                rw [hv] at y
                have henc : encA B m (j + 1) = putL (encA B m j) (item m j) 1 := rfl
                generalize encA B m j = Bj at *
                generalize item m j = v at *
                have hencH := Lib.hid henc
                clear henc hv
                go_wp2_with fail
                refine (put Aj cj Bj v 1 _ hAj hj16).mono ?_
                rintro e w9 ⟨v9, rfl, hv9, hU9⟩
                go_wp2_with fail
                go_roundw
                case measure => simp [intOf]; omega
                case rel => exact ⟨j + 1, _, by omega, by go_num, rfl, by rw [hencH.out]; exact hv9.lower hszj, hUj.tr hU9⟩
              · obtain rfl : j = 4 := by omega
                go_wp2_with fail
                go_roundw
                case measure => simp [intOf]; omega
                case rel => exact ⟨i + 1, _, by omega, by go_num, by rw [hik.out.2.1]; rfl, rfl, by rw [hik.out.1]; exact hVj, hU7.tr hUj⟩
        | true =>
          as_aux_lemma =>
            go_wp2_with fail
            refine (hrm _).mono ?_
            rintro e w6 ⟨rfl, hU6'⟩
            have hV6 := hV2.upd0 hU6'
            have hU6 := hU2.tr hU6'
            have hx6 := hU6'.blk hx (fun h => h)
            have x0 := blk_cell hx6 0
            have x1 := blk_cell hx6 1
            have x2 := blk_cell hx6 2
            have x3 := blk_cell hx6 3
            simp only [List.getElem?_toArray, List.getElem?_cons_zero, List.getElem?_cons_succ] at x0 x1 x2 x3
            go_wp2_with fail
            have hV7 := hV6.alloc (.cells #[.int .i64 p, .int .i64 q, .int .i64 s, .int .i64 1] 3)
            have hU7 := hU6.alloc (.cells #[.int .i64 p, .int .i64 q, .int .i64 s, .int .i64 1] 3)
            have hL7 : Arg (w6.alloc (.cells #[.int .i64 p, .int .i64 q, .int .i64 s, .int .i64 1] 3)) (some ⟨w6.heap.size, 0, none⟩) 1 ic [p, q, s, 1] := by
              have h := arg_lit (l := [p, q, s, 1]) ic_len (blk_new w6 (.cells #[.int .i64 p, .int .i64 q, .int .i64 s, .int .i64 1] 3)) rfl
              have e : w6.heap.size = w6.heap.size := by simp
              rw [e] at h
              exact h
            generalize w6.alloc (.cells #[.int .i64 p, .int .i64 q, .int .i64 s, .int .i64 1] 3) = w7 at *
            clear y0 y1 y2 y3 hrm ua hx hV2 hU2 hV hU
            obtain ⟨wo, rfl⟩ : ∃ x, x = wr := ⟨wr, rfl⟩
            have hlit := fun j (hj : j < 4) => lit_item p q s true j hj
            rw [← hmH.out] at hlit
            replace hlit := Lib.hid hlit
            go_loopw [7, 12, 43] (fun s7 s12 s43 wr => ∃ (j : Nat) (V : Value), j ≤ 4 ∧ s43 = .int .i64 (j : Int) ∧ s7 = V ∧ Sl wr w.heap.size 5 1 bc V (encA B m j) ∧ Upd Nil w7 wr) (fun _ _ s43 _ => 4 - (intOf s43).toNat)
            case atStart => exact ⟨0, _, by omega, rfl, rfl, hV7, Upd.refl _ _⟩
            case round =>
              clear hV7
              obtain ⟨j, V, hj, rfl, rfl, hVj, hUj⟩ := hrel
              have hszj := (hU7.tr hUj).size
              obtain ⟨Aj, cj, rfl, hcj⟩ := hVj.form
              have hAj := hVj.cells bc_len (by omega)
              have hbj := hB16 j hj
              have hj16 : (encA B m j).length + 4 ≤ 140737488355328 := by omega
              by_cases hj4 : j < 4
              · have y := ic_at (hL7.upd hUj) (i := j) (by simpa using hj4)
                have hv : ([p, q, s, 1] : List Int)[j]'(by simpa using hj4) = item m j := hlit.out j hj4
                rw [hv] at y
                have henc : encA B m (j + 1) = putL (encA B m j) (item m j) 1 := rfl
                generalize encA B m j = Bj at *
                generalize item m j = v at *
                have hencH := Lib.hid henc
                clear henc hv
                go_wp2_with fail
                refine (put Aj cj Bj v 1 _ hAj hj16).mono ?_
                rintro e w9 ⟨v9, rfl, hv9, hU9⟩
                go_wp2_with fail
                go_roundw
                case measure => simp [intOf]; omega
                case rel => exact ⟨j + 1, _, by omega, by go_num, rfl, by rw [hencH.out]; exact hv9.lower hszj, hUj.tr hU9⟩
              · obtain rfl : j = 4 := by omega
                go_wp2_with fail
                go_roundw
                case measure => simp [intOf]; omega
                case rel => exact ⟨i + 1, _, by omega, by go_num, by rw [hik.out.2.1]; rfl, rfl, by rw [hik.out.1]; exact hVj, hU7.tr hUj⟩
    · obtain rfl : i = l.length := by omega
      rw [List.take_length] at hV ⊢
      have hbb := hpk.out.2.2 l.length
      rw [List.take_length] at hbb
      have hb8 := hpk.out.2.1
      have hrec : recB number l = if (numOk number && l.all rightM) = false then ([], 1) else if 32 < l.length then ([], 4) else mk 68 (l.foldl encM (recHead number l.length)) := rfl
      obtain ⟨A5, c5, rfl, hc5⟩ := hV.form
      have hA5 := hV.cells bc_len (by omega)
      generalize l.foldl encM (recHead number l.length) = B at *
      generalize (numOk number && l.all rightM) = ok at *
      have hbm : B.length ≤ maxLen := by unfold maxLen; omega
      have qm := fun w h => make 68 A5 c5 B w h hbm
      have hrecH := Lib.hid hrec
      clear hrec hbb hb8 hbm
      cases ok with
      | false =>
        go_wp2_with fail
        rw [← hRH.out, hrecH.out]
        exact ⟨_, rfl, Sl.nil _ _ _ _ _, hU⟩
      | true =>
        by_cases h32 : 32 < (l.length : Int)
        · go_wp2_with fail
          rw [← hRH.out, hrecH.out, if_neg (by simp), if_pos (by omega)]
          exact ⟨_, rfl, Sl.nil _ _ _ _ _, hU⟩
        · go_wp2_with fail
          refine (qm _ hA5).mono ?_
          rintro e w6 ⟨v, rfl, hv, hU6⟩
          go_wp2_with fail
          rw [← hRH.out, hrecH.out, if_neg (by simp), if_neg (by omega)]
          exact ⟨v, rfl, hv.lower hU.size, hU.tr hU6⟩
end Go.Proofs.Ythppheklnplljaa.Delta
