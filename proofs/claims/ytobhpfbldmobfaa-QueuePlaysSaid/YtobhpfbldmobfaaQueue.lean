/-
  Contracts of package queue: a queue whose commands and completions are known. Conditions: each contract's own.
-/
import Derived.Test.YtobhpfbldmobfaaProg
import Derived.Test.YtobhpfbldmobfaaSl
import Derived.KernelRfl
import Derived.Lib.Hide
import Derived.Lib.SliceRun
import Derived.Deep.RegionLaw
namespace Go.Proofs.Ytobhpfbldmobfaa.Queue
open Go.RowKit Go.Proofs.Ytobhpfbldmobfaa.Base
set_option linter.unusedVariables false
/-- Two numbers and a text: a command, or what was done. -/
structure Rec where
  a : Int
  b : Int
  s : ByteArray
def rc (x : Rec) : List Value := [.int .i64 x.a, .int .i64 x.b, .string x.s]
theorem rc_len (x : Rec) : (rc x).length = 3 := rfl
theorem rc_one (x : Rec) : ∀ u ∈ rc x, u.oneCell' = true := by
  intro u hu
  simp [rc] at hu
  rcases hu with rfl | rfl | rfl <;> rfl
/-- slices.Clone: the same elements in a slice of one's own. -/
def ClonedDn (l : List (Rec)) (w : World) (e : Ending) (w' : World) : Prop := ∃ v, e = .returned v ∧ Sl w' w.heap.size 80 3 rc v l ∧ Upd Nil w w'
set_option maxRecDepth 100000 in
theorem cloneDn (A : Option Addr) (c : Nat) (l : List (Rec)) (w : World) (hA : Arg w A 3 rc l) (hb : l.length * 32 ≤ 140737488355328) :
    Calls Try.prog 85 #[.slice A l.length c] w (ClonedDn l w) := by
  have hq : ∀ (w : World) (a : Option Addr) (n c n' c' : Nat), (binOp .eql 76 (.slice a n c) (.slice none n' c')).run Try.prog w = .ok (.bool a.isNone) w := fun w a n c n' c' => Lib.run_eql_slice_nil w _ _ a n c n' c' Try.underlying76
  cases A with
  | none =>
    obtain rfl : l = [] := hA.resolve_right (fun ⟨b, off, h, _⟩ => by cases h)
    go_enter Try.func85, Try.ntmps85
    go_wp2
    go_ret
    exact ⟨_, rfl, Sl.nil _ _ _ _ _, Upd.refl _ _⟩
  | some A =>
    have hz : Sl (w.alloc (.cells #[] 80)) w.heap.size 80 3 rc (.slice (some ⟨w.heap.size, 0, none⟩) 0 0) [] := Sl.zero _ _ _ _ _ _ (Nat.le_refl _)
    by_cases h0 : l = []
    · subst h0
      obtain ⟨ti, hti⟩ : ∃ ti, Try.prog.info? 80 = some ti := Option.isSome_iff_exists.1 (by kernel_rfl)
      go_enter Try.func85, Try.ntmps85
      go_wp2_with (at_builtin; refine wp_append0 rfl _ _ 76 80 rfl Try.underlying76 hti (some ⟨w.heap.size, 0, none⟩) (some A) 0 0 c rfl rfl (Nat.le_refl _) ?_)
      go_ret
      exact ⟨_, rfl, hz, (Upd.refl _ _).alloc _⟩
    · have hpos : 0 < l.length := List.length_pos_iff.2 h0
      have hA2 : Arg (w.alloc (.cells #[] 80)) (some A) 3 rc l := hA.upd ((Upd.refl _ _).alloc _)
      have hm : l.length ≤ maxLen := by unfold maxLen; omega
      go_enter Try.func85, Try.ntmps85
      go_wp2_with (at_builtin; (refine wp_append (sz := 3) w.heap.size rfl (.tmp 5) (.tmp 6) 76 80 (.agg #[.int .i64 0, .int .i64 0, .string ByteArray.empty]) 32 rfl Try.underlying76 (by kernel_rfl) rfl (by omega) rc_len rc_one (.slice (some ⟨w.heap.size, 0, none⟩) 0 0) [] l A c rfl rfl hpos hA2 hz (by simp) (by simp; omega) (by simp; omega) ?_); intro A1 c1 w1 hv1 hg1 hat)
      go_ret
      exact ⟨_, rfl, by simpa using hv1, ((Upd.refl Nil w).alloc _).grown hg1 (fun k hk => .inr (by simp [Value.ownBlock] at hk; omega))⟩

/-- What Check answers. -/
def chk (x : Rec) : Int := if x.a = 2 then 0 else if (x.a = 1 ∨ x.a = 3) ∧ x.s.toList.isEmpty = true then 0 else if x.a = 4 ∧ x.s.toList.isEmpty = true ∧ x.b = 0 then 0 else 1
def RetV (v : Value) (w : World) (e : Ending) (w' : World) : Prop := e = .returned v ∧ Upd Nil w w'
set_option maxRecDepth 100000 in
theorem check (x : Rec) (w : World) : Calls Try.prog 51 #[.agg #[.int .i64 x.a, .int .i64 x.b, .string x.s]] w (RetV (.int .i64 (chk x)) w) := by
  obtain ⟨a, b, s⟩ := x
  have hc : Hid (chk ⟨a, b, s⟩ = if a = 2 then 0 else if (a = 1 ∨ a = 3) ∧ s.toList.isEmpty = true then 0 else if a = 4 ∧ s.toList.isEmpty = true ∧ b = 0 then 0 else 1) := rfl
  have hU := (Upd.refl Nil w).alloc (.cells #[.int .i64 a, .int .i64 b, .string s] 78)
  have ri : ∀ {n m : Int}, n = m → Ending.returned (.int .i64 m) = .returned (.int .i64 n) := fun h => by rw [h]
  have one : ∀ (f : Prop), f → f := fun _ h => h
  cases hs : s.toList.isEmpty with
  | true =>
    by_cases h2 : a = 2
    · subst h2
      go_enter Try.func51, Try.ntmps51
      go_wp2
      go_ret
      exact ⟨ri (by rw [hc.out]; simp), hU⟩
    · have e2 : (a == 2) = false := beq_eq_false_iff_ne.mpr h2
      by_cases h1 : a = 1
      · subst h1
        go_enter Try.func51, Try.ntmps51
        go_wp2
        go_ret
        exact ⟨ri (by rw [hc.out]; simp [hs]), hU⟩
      · have e1 : (a == 1) = false := beq_eq_false_iff_ne.mpr h1
        by_cases h3 : a = 3
        · subst h3
          go_enter Try.func51, Try.ntmps51
          go_wp2
          go_ret
          exact ⟨ri (by rw [hc.out]; simp [hs]), hU⟩
        · have e3 : (a == 3) = false := beq_eq_false_iff_ne.mpr h3
          by_cases h4 : a = 4
          · subst h4
            by_cases hb : b = 0
            · subst hb
              go_enter Try.func51, Try.ntmps51
              go_wp2
              go_ret
              exact ⟨ri (by rw [hc.out]; simp [hs]), hU⟩
            · have eb : (b == 0) = false := beq_eq_false_iff_ne.mpr hb
              go_enter Try.func51, Try.ntmps51
              go_wp2
              go_ret
              exact ⟨ri (by rw [hc.out]; simp [hs, hb]), hU⟩
          · have e4 : (a == 4) = false := beq_eq_false_iff_ne.mpr h4
            go_enter Try.func51, Try.ntmps51
            go_wp2
            go_ret
            exact ⟨ri (by rw [hc.out]; simp [h1, h2, h3, h4]), hU⟩
  | false =>
    by_cases h2 : a = 2
    · subst h2
      go_enter Try.func51, Try.ntmps51
      go_wp2
      go_ret
      exact ⟨ri (by rw [hc.out]; simp), hU⟩
    · have e2 : (a == 2) = false := beq_eq_false_iff_ne.mpr h2
      by_cases h1 : a = 1
      · subst h1
        go_enter Try.func51, Try.ntmps51
        go_wp2
        go_ret
        exact ⟨ri (by rw [hc.out]; simp [hs]), hU⟩
      · have e1 : (a == 1) = false := beq_eq_false_iff_ne.mpr h1
        by_cases h3 : a = 3
        · subst h3
          go_enter Try.func51, Try.ntmps51
          go_wp2
          go_ret
          exact ⟨ri (by rw [hc.out]; simp [hs]), hU⟩
        · have e3 : (a == 3) = false := beq_eq_false_iff_ne.mpr h3
          by_cases h4 : a = 4
          · subst h4
            go_enter Try.func51, Try.ntmps51
            go_wp2
            go_ret
            exact ⟨ri (by rw [hc.out]; simp [hs]), hU⟩
          · have e4 : (a == 4) = false := beq_eq_false_iff_ne.mpr h4
            go_enter Try.func51, Try.ntmps51
            go_wp2
            go_ret
            exact ⟨ri (by rw [hc.out]; simp [h1, h2, h3, h4]), hU⟩

/-! ### a queue -/
/-- A queue's block, and what its two slices hold. -/
structure Qu (B : Nat) (w : World) (b : Nat) (vw vd : Value) (ws ds : List Rec) : Prop where
  blk : w.heap[b]? = some (.cells #[vw, vd] 129 (0, 0))
  ws : Sl w B 78 3 rc vw ws
  ds : Sl w B 80 3 rc vd ds
/-- What an operation on the waiting ones may write to. -/
def QS (b : Nat) (v : Value) : Nat → Prop := fun x => x = b ∨ v.ownBlock = some x
/-- A slice's block is the one it had, or a new one. -/
def Kin (w : World) (v v' : Value) : Prop := v'.ownBlock = v.ownBlock ∨ ∃ g, v'.ownBlock = some g ∧ w.heap.size ≤ g
theorem Qu.upd {B : Nat} {w w' : World} {b : Nat} {vw vd : Value} {ws ds : List Rec} (h : Qu B w b vw vd ws ds) {S : Nat → Prop} (u : Upd S w w') (hb : ¬ S b) (hw : ∀ k, vw.ownBlock = some k → ¬ S k) (hd : ∀ k, vd.ownBlock = some k → ¬ S k) : Qu B w' b vw vd ws ds :=
  ⟨u.blk h.blk hb, h.ws.upd u hw, h.ds.upd u hd⟩

def Fresh (B : Nat) (w : World) (e : Ending) (w' : World) : Prop := ∃ b, e = .returned (.pointer (some ⟨b, 0, none⟩)) ∧ w.heap.size ≤ b ∧ Qu B w' b (.slice none 0 0) (.slice none 0 0) [] [] ∧ Upd Nil w w'
set_option maxRecDepth 100000 in
theorem new (B : Nat) (w : World) : Calls Try.prog 48 #[] w (Fresh B w) := by
  go_enter Try.func48, Try.ntmps48
  go_wp2
  go_ret
  exact ⟨_, rfl, Nat.le_refl _, ⟨blk_new _ _, Sl.nil _ _ _ _ _, Sl.nil _ _ _ _ _⟩, (Upd.refl _ _).alloc _⟩

set_option maxRecDepth 100000 in
theorem len (B b : Nat) (vw vd : Value) (ws ds : List Rec) (w : World) (h : Qu B w b vw vd ws ds) : Calls Try.prog 56 #[.pointer (some ⟨b, 0, none⟩)] w fun e w' => e = .returned (.int .i64 (ws.length : Nat)) ∧ w = w' := by
  have hbk := h.blk
  obtain ⟨A, c, rfl, hc⟩ := h.ws.form
  have hbkc0 : (w).cell? ⟨b, 0, none⟩ = some (.slice A ws.length c) := Base.blk_cell hbk 0
  have hbkz0 : (w).frozen? ⟨b, 0, none⟩ = false := Base.blk_frozen hbk 0
  have hbkc1 : (w).cell? ⟨b, 1, none⟩ = some (vd) := Base.blk_cell hbk 1
  have hbkz1 : (w).frozen? ⟨b, 1, none⟩ = false := Base.blk_frozen hbk 1
  go_enter Try.func56, Try.ntmps56
  go_wp2
  go_ret
  exact ⟨rfl, rfl⟩

def RetAll (ds : List Rec) (w : World) (e : Ending) (w' : World) : Prop := ∃ v, e = .returned v ∧ Sl w' w.heap.size 80 3 rc v ds ∧ Upd Nil w w'
set_option maxRecDepth 100000 in
theorem all (B b : Nat) (vw vd : Value) (ws ds : List Rec) (w : World) (h : Qu B w b vw vd ws ds) (hb : ds.length * 32 ≤ 140737488355328) : Calls Try.prog 55 #[.pointer (some ⟨b, 0, none⟩)] w (RetAll ds w) := by
  have hbk := h.blk
  obtain ⟨A, c, rfl, hc⟩ := h.ds.form
  have hA := h.ds.cells rc_len (by omega)
  have hbkc0 : (w).cell? ⟨b, 0, none⟩ = some (vw) := Base.blk_cell hbk 0
  have hbkz0 : (w).frozen? ⟨b, 0, none⟩ = false := Base.blk_frozen hbk 0
  have hbkc1 : (w).cell? ⟨b, 1, none⟩ = some (.slice A ds.length c) := Base.blk_cell hbk 1
  have hbkz1 : (w).frozen? ⟨b, 1, none⟩ = false := Base.blk_frozen hbk 1
  have hcl := cloneDn A c ds w hA hb
  go_enter Try.func55, Try.ntmps55
  go_wp2_with (go_at_call 85; refine hcl.mono ?_; rintro e w' ⟨v, rfl, hv, hU⟩)
  go_ret
  exact ⟨v, rfl, hv, hU⟩

set_option maxRecDepth 100000 in
theorem nils (x : Rec) (w : World) : Calls Try.prog 56 #[.pointer none] w (RetV (.int .i64 0) w) ∧ Calls Try.prog 55 #[.pointer none] w (RetV (.slice none 0 0) w) ∧ Calls Try.prog 54 #[.pointer none] w (RetV (.tuple #[]) w) ∧
    Calls Try.prog 53 #[.pointer none, .agg #[.int .i64 x.a, .int .i64 x.b, .string x.s]] w (RetV (.tuple #[]) w) ∧ Calls Try.prog 50 #[.pointer none, .agg #[.int .i64 x.a, .int .i64 x.b, .string x.s]] w (RetV (.int .i64 1) w) := by
  obtain ⟨xa, xb, xs⟩ := x
  refine ⟨?_, ?_, ?_, ?_, ?_⟩
  · go_enter Try.func56, Try.ntmps56
    go_wp2
    go_ret
    exact ⟨rfl, Upd.refl _ _⟩
  · go_enter Try.func55, Try.ntmps55
    go_wp2
    go_ret
    exact ⟨rfl, Upd.refl _ _⟩
  · go_enter Try.func54, Try.ntmps54
    go_wp2
    go_end0
    exact ⟨rfl, Upd.refl _ _⟩
  · go_enter Try.func53, Try.ntmps53
    go_wp2
    go_end0
    exact ⟨rfl, (Upd.refl _ _).alloc _⟩
  · go_enter Try.func50, Try.ntmps50
    go_wp2
    go_ret
    exact ⟨rfl, (Upd.refl _ _).alloc _⟩

/-- What Next answers. -/
def NextR (B b : Nat) (vw vd : Value) (ws ds : List Rec) (w : World) (e : Ending) (w' : World) : Prop :=
  match ws with
  | [] => e = .returned (.tuple #[.agg #[.int .i64 0, .int .i64 0, .string ⟨#[]⟩], .bool false]) ∧ Upd Nil w w'
  | x :: r => e = .returned (.tuple #[.agg #[.int .i64 x.a, .int .i64 x.b, .string x.s], .bool true]) ∧ (∃ v', Qu B w' b v' vd r ds ∧ v'.ownBlock = vw.ownBlock) ∧ Upd (Only b) w w'

set_option maxRecDepth 100000 in
theorem next_none (B b : Nat) (vw vd : Value) (ds : List Rec) (w : World) (h : Qu B w b vw vd [] ds) : Calls Try.prog 52 #[.pointer (some ⟨b, 0, none⟩)] w (NextR B b vw vd [] ds w) := by
  have hl := len B b vw vd [] ds _ ⟨blk_alloc h.blk (.cells #[.int .i64 0, .int .i64 0, .string ⟨#[]⟩] 78), h.ws.move (fun k hk => Below.heap_alloc _ _ _ (h.ws.lt k hk)), h.ds.move (fun k hk => Below.heap_alloc _ _ _ (h.ds.lt k hk))⟩
  go_enter Try.func52, Try.ntmps52
  go_wp2_with (go_at_call 56; refine hl.mono ?_; rintro e w' ⟨rfl, rfl⟩)
  exact bodyPost_ret (v := .tuple #[.agg #[.int .i64 0, .int .i64 0, .string ⟨#[]⟩], .bool false]) (by simp [results, Try.results52, go_sem]) rfl ⟨rfl, (Upd.refl Nil w).alloc _⟩

set_option maxRecDepth 100000 in
theorem next_some (B b : Nat) (vw vd : Value) (x : Rec) (r ds : List Rec) (w : World) (h : Qu B w b vw vd (x :: r) ds) : Calls Try.prog 52 #[.pointer (some ⟨b, 0, none⟩)] w (NextR B b vw vd (x :: r) ds w) := by
  have hl := len B b vw vd (x :: r) ds _ ⟨blk_alloc h.blk (.cells #[.int .i64 0, .int .i64 0, .string ⟨#[]⟩] 78), h.ws.move (fun k hk => Below.heap_alloc _ _ _ (h.ws.lt k hk)), h.ds.move (fun k hk => Below.heap_alloc _ _ _ (h.ds.lt k hk))⟩
  obtain ⟨A, c, rfl, hc⟩ := h.ws.form
  have hA := h.ws.cells rc_len (by omega)
  have hD := h.ws.drop (k := 1) rc_len (by simp)
  have hne := h.ws.ne h.blk (by decide)
  have hned := h.ds.ne h.blk (by decide)
  obtain ⟨g, off, rfl, hg, hcell⟩ := id (hA.resolve_left (by simp))
  have hgb : g ≠ b := hne g rfl
  have hbs := blk_lt h.blk
  obtain ⟨xa, xb, xs⟩ := x
  have e0 := hcell 0 (by simp) 0 (by omega)
  have e1 := hcell 0 (by simp) 1 (by omega)
  have e2 := hcell 0 (by simp) 2 (by omega)
  simp only [rc, List.getElem_cons_zero, List.getElem?_cons_zero, List.getElem?_cons_succ, Nat.zero_mul, Nat.add_zero] at e0 e1 e2
  have hl0 : ((r.length : Int) + 1 == 0) = false := by simp; omega
  have hbk := h.blk
  have hbkc0 : (w).cell? ⟨b, 0, none⟩ = some (.slice (some ⟨g, off, none⟩) (r.length + 1) c) := Base.blk_cell hbk 0
  have hbkz0 : (w).frozen? ⟨b, 0, none⟩ = false := Base.blk_frozen hbk 0
  have hbkc1 : (w).cell? ⟨b, 1, none⟩ = some (vd) := Base.blk_cell hbk 1
  have hbkz1 : (w).frozen? ⟨b, 1, none⟩ = false := Base.blk_frozen hbk 1
  have hc1 : 1 ≤ c := by simp at hc; omega
  have hU : ∀ u : Value, ∀ o1 o2 : Obj, Upd (Only b) w (((w.setCell ⟨b, 0, none⟩ u).alloc o1).alloc o2) := fun u o1 o2 => (((Upd.refl (Only b) w).set1 u).alloc o1).alloc o2
  by_cases hcap : c = 1
  · subst hcap
    have hr0 : r = [] := List.eq_nil_of_length_eq_zero (by have h2 : r.length + 1 ≤ 1 := hc; omega)
    subst hr0
    have hD2 : Sl w B 78 3 rc (.slice (some ⟨g, off, none⟩) 0 0) [] := hD
    go_enter Try.func52, Try.ntmps52
    go_wp2_with (go_at_call 56; refine hl.mono ?_; rintro e w' ⟨rfl, rfl⟩)
    refine bodyPost_ret (v := .tuple #[.agg #[.int .i64 xa, .int .i64 xb, .string xs], .bool true]) (by simp [results, Try.results52, go_sem]) rfl ⟨rfl, ⟨.slice (some ⟨g, off, none⟩) 0 0, ⟨blk_alloc (blk_alloc (blk_put hbk 0 _ rfl) _) _, hD2.upd (hU _ _ _) (fun k hk => hne k hk), h.ds.upd (hU _ _ _) (fun k hk => hned k hk)⟩, rfl⟩, hU _ _ _⟩
  · have hcapI : ¬ ((c : Int) = 1) := by omega
    have hcapN : (c = 1) = False := eq_false hcap
    rw [if_neg hcap] at hD
    have hD2 : Sl w B 78 3 rc (.slice (some ⟨g, off + 3, none⟩) r.length (c - 1)) r := by simpa [Addr.add] using hD
    go_enter Try.func52, Try.ntmps52
    go_wp2_with (go_at_call 56; refine hl.mono ?_; rintro e w' ⟨rfl, rfl⟩)
    refine bodyPost_ret (v := .tuple #[.agg #[.int .i64 xa, .int .i64 xb, .string xs], .bool true]) (by simp [results, Try.results52, go_sem]) rfl ⟨rfl, ⟨.slice (some ⟨g, off + 3, none⟩) r.length (c - 1), ⟨blk_alloc (blk_alloc (blk_put hbk 0 _ rfl) _) _, hD2.upd (hU _ _ _) (fun k hk => hne k hk), h.ds.upd (hU _ _ _) (fun k hk => hned k hk)⟩, rfl⟩, hU _ _ _⟩

/-! ### Clear -/
theorem zero_cmd (w : World) : (zeroValue 78).run Try.prog w = .ok (.agg #[.int .i64 0, .int .i64 0, .string ⟨#[]⟩]) w := by kernel_rfl
def ClearR (B b : Nat) (vw vd : Value) (ds : List Rec) (w : World) (e : Ending) (w' : World) : Prop := e = .returned (.tuple #[]) ∧ (∃ v', Qu B w' b v' vd [] ds ∧ v'.ownBlock = vw.ownBlock) ∧ Upd (QS b vw) w w'
set_option maxRecDepth 100000 in
theorem clear (B b : Nat) (vw vd : Value) (ws ds : List Rec) (w : World) (h : Qu B w b vw vd ws ds) (hown : ∀ k, vd.ownBlock = some k → vw.ownBlock ≠ some k) :
    Calls Try.prog 54 #[.pointer (some ⟨b, 0, none⟩)] w (ClearR B b vw vd ds w) := by
  have hbk := h.blk
  obtain ⟨A, c, rfl, hc⟩ := h.ws.form
  have hne := h.ws.ne h.blk (by decide)
  have hned := h.ds.ne h.blk (by decide)
  have hbkc0 : (w).cell? ⟨b, 0, none⟩ = some (.slice A ws.length c) := Base.blk_cell hbk 0
  have hbkz0 : (w).frozen? ⟨b, 0, none⟩ = false := Base.blk_frozen hbk 0
  have hbkc1 : (w).cell? ⟨b, 1, none⟩ = some (vd) := Base.blk_cell hbk 1
  have hbkz1 : (w).frozen? ⟨b, 1, none⟩ = false := Base.blk_frozen hbk 1
  have hc0 : ¬ ((c : Int) < 0) := by omega
  go_enter Try.func54, Try.ntmps54
  go_wp2_with (refine wp_clear (sz := 3) (f := rc) rfl (.tmp 7) 75 78 _ rfl Try.underlying75 zero_cmd rfl (by decide) (.slice A ws.length c) ws rfl h.ws ?_; intro w1 hg hcut; have hb1 := blk_grown h.blk hg hne; have hb1c0 : w1.cell? ⟨b, 0, none⟩ = some (.slice A ws.length c) := blk_cell hb1 0; have hb1z0 : w1.frozen? ⟨b, 0, none⟩ = false := blk_frozen hb1 0)
  have hsl := hcut A ws.length c rfl
  have hd1 := h.ds.grown hg (fun k hk e => hown k hk e.symm)
  go_end0
  have hU : Upd (QS b (.slice A ws.length c)) w (w1.setCell ⟨b, 0, none⟩ (.slice A 0 c)) := ((Upd.refl _ w).grown hg (fun k hk => .inl (.inr hk))).set (p := ⟨b, 0, none⟩) (.inl (.inl rfl)) _
  refine ⟨rfl, ⟨.slice A 0 c, ⟨blk_put hb1 0 _ rfl, hsl.upd ((Upd.refl (Only b) w1).set1 _) (fun k hk => ?_), hd1.upd ((Upd.refl (Only b) w1).set1 _) (fun k hk => hned k hk)⟩, ?_⟩, hU⟩
  · exact hne k (by rw [← hk]; cases A <;> rfl)
  · cases A <;> rfl

/-! ### Done -/
def DoneR (B b : Nat) (vw vd : Value) (ws ds : List Rec) (w : World) (e : Ending) (w' : World) : Prop := e = .returned (.tuple #[]) ∧ (∃ v', Qu B w' b vw v' ws ds ∧ Kin w vd v') ∧ Upd (QS b vd) w w'
set_option maxRecDepth 100000 in
theorem done (B b : Nat) (vw vd : Value) (ws ds : List Rec) (x : Rec) (w : World) (h : Qu B w b vw vd ws ds) (hB : B ≤ w.heap.size) (hlen : ds.length ≤ 1000000) (hown : ∀ k, vw.ownBlock = some k → vd.ownBlock ≠ some k) :
    Calls Try.prog 53 #[.pointer (some ⟨b, 0, none⟩), .agg #[.int .i64 x.a, .int .i64 x.b, .string x.s]] w (DoneR B b vw vd ws (ds ++ [x]) w) := by
  obtain ⟨xa, xb, xs⟩ := x
  have hbk := h.blk
  have hne := h.ws.ne h.blk (by decide)
  have hned := h.ds.ne h.blk (by decide)
  have hbs := blk_lt h.blk
  have hd0 : Sl (w.alloc (.cells #[.int .i64 xa, .int .i64 xb, .string xs] 80)).drew B 80 3 rc vd ds := h.ds.move (fun k hk => Below.heap_alloc _ _ _ (h.ds.lt k hk))
  have hbkc0 : (w).cell? ⟨b, 0, none⟩ = some (vw) := Base.blk_cell hbk 0
  have hbkz0 : (w).frozen? ⟨b, 0, none⟩ = false := Base.blk_frozen hbk 0
  have hbkc1 : (w).cell? ⟨b, 1, none⟩ = some (vd) := Base.blk_cell hbk 1
  have hbkz1 : (w).frozen? ⟨b, 1, none⟩ = false := Base.blk_frozen hbk 1
  have hba := blk_alloc hbk (.cells #[.int .i64 xa, .int .i64 xb, .string xs] 80)
  go_enter Try.func53, Try.ntmps53
  go_wp2_with fail
  go_region_law (refine step_append1 (sz := 3) B rfl (.tmp 10) (.tmp 12) 76 80 (.agg #[.int .i64 0, .int .i64 0, .string ⟨#[]⟩]) 32 rfl Try.underlying76 (by kernel_rfl) rfl (by omega) rc_len rc_one (w.alloc (.cells #[.int .i64 xa, .int .i64 xb, .string xs] 80)).drew ⟨xa, xb, xs⟩ (by rfl) vd ds rfl (by simp [Act.eval]) hd0 (by simp; omega) (by omega) (by unfold maxLen; omega) ?_; intro A1 c1 w1 hv1 hg1 hat; have hb1 := blk_grown (blk_drew hba) hg1 hned; have hb1c : w1.cell? ⟨b, 1, none⟩ = some vd := blk_cell hb1 1; have hb1z : w1.frozen? ⟨b, 1, none⟩ = false := blk_frozen hb1 1)
  all_goals
    go_end0
    have hU : Upd (QS b vd) w (w1.setCell ⟨b, 1, none⟩ (.slice A1 (ds.length + 1) c1)) := ((((Upd.refl (QS b vd) w).alloc (.cells #[.int .i64 xa, .int .i64 xb, .string xs] 80)).drew).grown hg1 (fun k hk => .inl (.inr hk))).set (p := ⟨b, 1, none⟩) (.inl (.inl rfl)) _
    exact ⟨rfl, ⟨_, ⟨blk_put hb1 1 _ rfl, h.ws.upd hU (fun k hk hs => hs.elim (hne k hk) (fun e => hown k hk e)), hv1.upd ((Upd.refl (Only b) w1).set1 _) (fun k hk => hv1.ne hb1 (by decide) k hk)⟩, hat.imp id (fun ⟨g, h1, h2⟩ => ⟨g, h1, by simp at h2; omega⟩)⟩, hU⟩

/-! ### Submit -/
/-- What Submit answers, and what waits behind it. -/
def subR (ws : List Rec) (x : Rec) : Int × List Rec := if chk x = 0 then (if ws.length < 8 then (0, ws ++ [x]) else (8, ws)) else (chk x, ws)
def SubmitR (B b : Nat) (vw vd : Value) (ws ds : List Rec) (x : Rec) (w : World) (e : Ending) (w' : World) : Prop :=
  e = .returned (.int .i64 (subR ws x).1) ∧ (∃ v', Qu B w' b v' vd (subR ws x).2 ds ∧ Kin w vw v') ∧ Upd (QS b vw) w w'
set_option maxRecDepth 100000 in
theorem submit (B b : Nat) (vw vd : Value) (ws ds : List Rec) (x : Rec) (w : World) (h : Qu B w b vw vd ws ds) (hB : B ≤ w.heap.size) (hown : ∀ k, vd.ownBlock = some k → vw.ownBlock ≠ some k) :
    Calls Try.prog 50 #[.pointer (some ⟨b, 0, none⟩), .agg #[.int .i64 x.a, .int .i64 x.b, .string x.s]] w (SubmitR B b vw vd ws ds x w) := by
  have hall : ∀ r wsx, subR ws x = (r, wsx) → Calls Try.prog 50 #[.pointer (some ⟨b, 0, none⟩), .agg #[.int .i64 x.a, .int .i64 x.b, .string x.s]] w (fun e w' => e = .returned (.int .i64 r) ∧ (∃ v', Qu B w' b v' vd wsx ds ∧ Kin w vw v') ∧ Upd (QS b vw) w w') := by
    intro r wsx hsub
    have hck := check x
    unfold subR at hsub
    obtain ⟨xa, xb, xs⟩ := x
    generalize hck0 : chk ⟨xa, xb, xs⟩ = q at *
    clear hck0
    have hbk := h.blk
    have hne := h.ws.ne h.blk (by decide)
    have hned := h.ds.ne h.blk (by decide)
    have hbs := blk_lt h.blk
    have hba := blk_alloc hbk (.cells #[.int .i64 xa, .int .i64 xb, .string xs] 78)
    by_cases hq : q = 0
    · subst hq
      rw [if_pos rfl] at hsub
      have hX : (w.alloc (.cells #[.int .i64 xa, .int .i64 xb, .string xs] 78)).heap[w.heap.size]? = some (.cells #[.int .i64 xa, .int .i64 xb, .string xs] 78 (0, 0)) := blk_new _ _
      obtain ⟨A, c, rfl, hc⟩ := h.ws.form
      have hw0 : Sl (w.alloc (.cells #[.int .i64 xa, .int .i64 xb, .string xs] 78)) B 78 3 rc (.slice A ws.length c) ws := h.ws.move (fun k hk => Below.heap_alloc _ _ _ (h.ws.lt k hk))
      by_cases h8 : ws.length < 8
      · rw [if_pos h8] at hsub
        obtain ⟨rfl, rfl⟩ : 0 = r ∧ ws ++ [⟨xa, xb, xs⟩] = wsx := by simpa using hsub
        clear hsub
        have h8i : ¬ (8 ≤ ws.length) := by omega
        go_enter Try.func50, Try.ntmps50
        go_wp2_with (go_at_call 51; refine (hck _).mono ?_; rintro e w2 ⟨rfl, hU2⟩; have hb2 := hU2.blk hba (fun h => h); have hb2c : w2.cell? ⟨b, 0, none⟩ = some (.slice A ws.length c) := blk_cell hb2 0; have hx2 := hU2.blk hX (fun h => h); have hx20 : w2.cell? ⟨w.heap.size, 0, none⟩ = some (.int .i64 xa) := blk_cell hx2 0; have hx21 : w2.cell? ⟨w.heap.size, 1, none⟩ = some (.int .i64 xb) := blk_cell hx2 1; have hx22 : w2.cell? ⟨w.heap.size, 2, none⟩ = some (.string xs) := blk_cell hx2 2; have hbl2 := blk_lt hb2; have hxl2 := blk_lt hx2)
        have hw2 : Sl w2.drew B 78 3 rc (.slice A ws.length c) ws := hw0.upd hU2.drew (fun _ _ h => h)
        have hB2 : B ≤ w2.drew.heap.size := by have := hU2.size; simp at this; simp; omega
        go_region_law (refine step_append1 (sz := 3) B rfl (.tmp 23) (.tmp 25) 75 78 (.agg #[.int .i64 0, .int .i64 0, .string ⟨#[]⟩]) 32 rfl Try.underlying75 (by kernel_rfl) rfl (by omega) rc_len rc_one w2.drew ⟨xa, xb, xs⟩ (by rfl) (.slice A ws.length c) ws rfl (by simp [Act.eval]) hw2 hB2 (by omega) (by unfold maxLen; omega) ?_; intro A1 c1 w1 hv1 hg1 hat; have hb1 := blk_grown (blk_drew hb2) hg1 hne; have hb1c : w1.cell? ⟨b, 0, none⟩ = some (.slice A ws.length c) := blk_cell hb1 0; have hb1z : w1.frozen? ⟨b, 0, none⟩ = false := blk_frozen hb1 0)
        all_goals
          go_wp2
          go_ret
          have hU0 : Upd Nil w w2 := ((Upd.refl Nil w).alloc _).trans hU2 (fun x hx => .inl hx)
          have hU : Upd (QS b (.slice A ws.length c)) w (w1.setCell ⟨b, 0, none⟩ (.slice A1 (ws.length + 1) c1)) := (((hU0.mono (fun _ h => h.elim)).drew).grown hg1 (fun k hk => .inl (.inr hk))).set (p := ⟨b, 0, none⟩) (.inl (.inl rfl)) _
          exact ⟨rfl, ⟨_, ⟨blk_put hb1 0 _ rfl, hv1.upd ((Upd.refl (Only b) w1).set1 _) (fun k hk => hv1.ne hb1 (by decide) k hk), h.ds.upd hU (fun k hk hs => hs.elim (hned k hk) (fun e => hown k hk e))⟩, hat.imp id (fun ⟨g, h1, h2⟩ => ⟨g, h1, by have := hU0.size; simp at h2; omega⟩)⟩, hU⟩
      · rw [if_neg h8] at hsub
        obtain ⟨rfl, rfl⟩ : 8 = r ∧ ws = wsx := by simpa using hsub
        clear hsub
        go_enter Try.func50, Try.ntmps50
        go_wp2_with (go_at_call 51; refine (hck _).mono ?_; rintro e w2 ⟨rfl, hU2⟩; have hb2 := hU2.blk hba (fun h => h); have hb2c : w2.cell? ⟨b, 0, none⟩ = some (.slice A ws.length c) := blk_cell hb2 0)
        go_ret
        have hU : Upd Nil w w2 := ((Upd.refl Nil w).alloc _).trans hU2 (fun x hx => .inl hx)
        exact ⟨rfl, ⟨_, h.upd hU (fun h => h) (fun _ _ h => h) (fun _ _ h => h), .inl rfl⟩, hU.mono (fun _ h => h.elim)⟩
    · have hqb : (q != 0) = true := by simp [hq]
      rw [if_neg hq] at hsub
      obtain ⟨rfl, rfl⟩ : q = r ∧ ws = wsx := by simpa using hsub
      clear hsub
      go_enter Try.func50, Try.ntmps50
      go_wp2_with (go_at_call 51; refine (hck _).mono ?_; rintro e w2 ⟨rfl, hU2⟩)
      go_ret
      have hU : Upd Nil w w2 := ((Upd.refl Nil w).alloc _).trans hU2 (fun x hx => .inl hx)
      exact ⟨rfl, ⟨vw, h.upd hU (fun h => h) (fun _ _ h => h) (fun _ _ h => h), .inl rfl⟩, hU.mono (fun _ h => h.elim)⟩
  exact hall _ _ rfl
end Go.Proofs.Ytobhpfbldmobfaa.Queue
