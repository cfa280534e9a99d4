/-
  The cache: Put. Conditions: what the cache holds.
-/
import Derived.Test.YtcifkccaiekkeaaCacheE
namespace Go.Proofs.Ytcifkccaiekkeaa.Cache
open Go.RowKit Go.Proofs.Ytcifkccaiekkeaa.Base Go.Maps Go.Proofs.Ytcifkccaiekkeaa.Ints
set_option linter.unusedVariables false
set_option linter.unusedSimpArgs false
def keyV : Option Key → Key
  | some k => k
  | none => (0, 0)
def PutR (F : Nat → Prop) (w : World) (c M : Nat) (room : Int) (rows : List (Key × ByteArray)) (h m : Int) (k : Key) (s : ByteArray) (e : Ending) (w' : World) : Prop :=
  e = .returned (.tuple #[.agg #[.int .i64 (keyV (putK room.toNat rows k s).2).1, .int .i64 (keyV (putK room.toNat rows k s).2).2], .bool (putK room.toNat rows k s).2.isSome]) ∧
  ∃ ns' K' V' f g, Cx (More F w.heap.size w'.heap.size) w' c M room ns' K' V' f g h m ∧ rowsOf ns' K' V' = (putK room.toNat rows k s).1 ∧ Upd F w w'
theorem lexW_len {P : Program} {ops : Array Oper} {Q : Exit → Act → World → Prop} {U : World → World → Prop} {s : Bool} {rest : List (Bool × Oper)} {a : Act} {w : World} {o : Oper} {v : Value} (m : Operand) (t : TypeId) (hop : o.op = Op.call { callee := Callee.builtin Builtin.len, args := #[m], argTypes := #[t] }) (hp : pureKind o = true) (hw : Region.wanted o (yielded ops a.tmps) = true)
    (hrun : ∀ w', U w w' → (Builtin.len_ #[t] o.type #[a.eval m]).run P w' = .ok v w') (h : wpLexW P ops U Q rest (a.put o.dst v) w) : wpLexW P ops U Q ((s, o) :: rest) a w := by
  refine lexW_pure hp hw (fun w' hu => ?_) h
  simp [execOp, hop, resolve, invoke, builtin, hrun w' hu, Result.andThen]
/-- A node that is new comes to the map and to the ring. -/
theorem Cx.grow {F : Nat → Prop} {w w' : World} {c M : Nat} {room : Int} {ns : List Nat} {K : Nat → Key} {V : Nat → ByteArray} {f g : Nat → Nat} {h m : Int} {a b n : Nat} (x : Cx F w c M room ns K V f g h m) {k : Key} {s : ByteArray} (hk : Wk k) (hn : n ∉ c :: ns) (hq : nodeOf ns K k = 0) (hN : a ≤ n ∧ n < b)
    {f' g' : Nat → Nat} (hr : Rg w' c M room (n :: ns) (ups K n k) (ups V n s) f' g' h m) (hm : MapP w' M (fun j => if j = k then n + 1 else nodeOf ns K j) (ns.length + 1)) :
    Cx (More F a b) w' c M room (n :: ns) (ups K n k) (ups V n s) f' g' h m := by
  have hnn : n ∉ ns := fun e => hn (by simp [e])
  have hK : ∀ b ∈ ns, ups K n k b = K b := fun b hb => ups_ne _ _ (fun e => hnn (by rw [← e]; exact hb))
  refine ⟨hr, ?_, fun y hy => ?_, ?_, fun y hy => ?_, x.hr⟩
  · rw [show nodeOf (n :: ns) (ups K n k) = (fun j => if j = k then n + 1 else nodeOf ns K j) from funext fun j => node_cons n ns K k j hnn]
    exact hm
  · rcases List.mem_cons.1 hy with rfl | hy
    · rw [ups_same]
      exact hk
    · rw [hK y hy]
      exact x.wk y hy
  · rw [List.map_cons, ups_same, List.nodup_cons, List.map_congr_left hK]
    refine ⟨fun e => ?_, x.ky⟩
    obtain ⟨y, hy, e⟩ := List.mem_map.1 e
    unfold nodeOf at hq
    split at hq
    · omega
    · rename_i h0
      have := List.find?_eq_none.1 h0 y hy
      simp [e] at this
  · simp at hy
    rcases hy with rfl | rfl | rfl | hy
    · exact .inl (x.own _ (by simp))
    · exact .inl (x.own _ (by simp))
    · exact .inr hN
    · exact .inl (x.own _ (by simp [hy]))
theorem Cx.updB {F : Nat → Prop} {w w' : World} {c M : Nat} {room : Int} {ns : List Nat} {K : Nat → Key} {V : Nat → ByteArray} {f g : Nat → Nat} {h m : Int} (x : Cx F w c M room ns K V f g h m) {S : Nat → Prop} (u : Upd S w w') (hs : ∀ y ∈ c :: M :: ns, ¬ S y) : Cx F w' c M room ns K V f g h m :=
  ⟨x.rg.upd u (fun y hy => hs y (by simp at hy ⊢; rcases hy with e | e <;> simp [e])), x.mp.upd u (hs M (by simp)), x.wk, x.ky, x.own, x.hr⟩
theorem Cx.tight {F : Nat → Prop} {w : World} {c M : Nat} {room : Int} {ns : List Nat} {K : Nat → Key} {V : Nat → ByteArray} {f g : Nat → Nat} {h m : Int} (x : Cx F w c M room ns K V f g h m) : Cx (In (c :: M :: ns)) w c M room ns K V f g h m :=
  ⟨x.rg, x.mp, x.wk, x.ky, fun y hy => hy, x.hr⟩
theorem Cx.mono {F F' : Nat → Prop} {w : World} {c M : Nat} {room : Int} {ns : List Nat} {K : Nat → Key} {V : Nat → ByteArray} {f g : Nat → Nat} {h m : Int} (x : Cx F w c M room ns K V f g h m) (hf : ∀ y, F y → F' y) : Cx F' w c M room ns K V f g h m :=
  ⟨x.rg, x.mp, x.wk, x.ky, fun y hy => hf y (x.own y hy), x.hr⟩
theorem rows_cons {n : Nat} {ns : List Nat} (hn : n ∉ ns) (K : Nat → Key) (V : Nat → ByteArray) (k : Key) (s : ByteArray) : rowsOf (n :: ns) (ups K n k) (ups V n s) = (k, s) :: rowsOf ns K V := by
  show (ups K n k n, ups V n s n) :: rowsOf ns _ _ = _
  rw [ups_same, ups_same, rows_same (fun b hb => ⟨ups_ne _ _ (fun e => hn (by rw [← e]; exact hb)), ups_ne _ _ (fun e => hn (by rw [← e]; exact hb))⟩)]
theorem two_set {w : World} {b : Nat} {u v : Value} (x y : Value) (h0 : w.cell? ⟨b, 0, none⟩ = some u) (h1 : w.cell? ⟨b, 1, none⟩ = some v) :
    ((w.setCell ⟨b, 0, none⟩ x).setCell ⟨b, 1, none⟩ y).cell? ⟨b, 0, none⟩ = some x ∧ ((w.setCell ⟨b, 0, none⟩ x).setCell ⟨b, 1, none⟩ y).cell? ⟨b, 1, none⟩ = some y := by
  refine ⟨?_, ?_⟩
  · rw [set_cell_other _ (by omega)]
    exact set_cell_same _ h0
  · exact set_cell_same (u := v) _ (by rw [set_cell_other _ (by omega)]; exact h1)
set_option maxRecDepth 100000 in
theorem put_nil (w : World) (k : Key) (s : ByteArray) :
    Calls Try.prog 31 #[.pointer none, .agg #[.int .i64 k.1, .int .i64 k.2], .string s] w fun e w' => e = .returned (.tuple #[.agg #[.int .i64 0, .int .i64 0], .bool false]) ∧ Upd Nil w w' := by
  have hx := blk_alloc (blk_new w (.cells #[.int .i64 k.1, .int .i64 k.2] 47)) (.cells #[.int .i64 0, .int .i64 0] 47)
  have hz := blk_new (w.alloc (.cells #[.int .i64 k.1, .int .i64 k.2] 47)) (.cells #[.int .i64 0, .int .i64 0] 47)
  have hU := ((Upd.refl Nil w).alloc (.cells #[.int .i64 k.1, .int .i64 k.2] 47)).alloc (.cells #[.int .i64 0, .int .i64 0] 47)
  rw [show (w.alloc (.cells #[.int .i64 k.1, .int .i64 k.2] 47)).heap.size = w.heap.size + 1 by simp] at hz
  go_enter Try.func31, Try.ntmps31
  go_wp2_with fail
  generalize (w.alloc (.cells #[.int .i64 k.1, .int .i64 k.2] 47)).alloc (.cells #[.int .i64 0, .int .i64 0] 47) = W at *
  have hnr : w.heap.size ≤ w.heap.size ∧ w.heap.size ≤ w.heap.size + 1 ∧ w.heap.size ≠ w.heap.size + 1 := by omega
  generalize w.heap.size + 1 = rb at *
  refine (drop_nil W k).mono ?_
  rintro e w1 ⟨rfl, u1⟩
  replace hz := u1.blk hz (fun h => h)
  have f0 := blk_frozen hz 0
  have f1 := blk_frozen hz 1
  have z0 := blk_cell hz 0
  have z1 := blk_cell hz 1
  simp only [List.getElem?_toArray, List.getElem?_cons_zero, List.getElem?_cons_succ] at z0 z1
  have hn := hnr.2.1
  clear hnr
  go_wp2_with fail
  obtain ⟨d0, d1⟩ := two_set (.int .i64 0) (.int .i64 0) z0 z1
  exact bodyPost_ret (v := .tuple #[.agg #[.int .i64 0, .int .i64 0], .bool false]) (by simp [results, Try.results31, go_sem, d0, d1]) rfl ⟨rfl, ((hU.tr u1).setNew hn _).setNew hn _⟩
set_option maxRecDepth 100000 in
theorem put {F : Nat → Prop} {w : World} {c M : Nat} {room : Int} {ns : List Nat} {K : Nat → Key} {V : Nat → ByteArray} {f g : Nat → Nat} {h m : Int} (x : Cx F w c M room ns K V f g h m) (hF : ∀ y, F y → y < w.heap.size) (hl : ns.length ≤ room.toNat) (k : Key) (hk : Wk k) (s : ByteArray) :
    Calls Try.prog 31 #[.pointer (some ⟨c, 0, none⟩), .agg #[.int .i64 k.1, .int .i64 k.2], .string s] w (PutR F w c M room (rowsOf ns K V) h m k s) := by
  have hxx := x.upd0 (((Upd.refl Nil w).alloc (.cells #[.int .i64 k.1, .int .i64 k.2] 47)).alloc (.cells #[.int .i64 0, .int .i64 0] 47))
  generalize hR : PutR F w c M room (rowsOf ns K V) h m k s = R
  have hR2 := Lib.hid hR
  clear hR
  have hr := hxx.hr
  have hx := blk_alloc (blk_new w (.cells #[.int .i64 k.1, .int .i64 k.2] 47)) (.cells #[.int .i64 0, .int .i64 0] 47)
  have hz := blk_new (w.alloc (.cells #[.int .i64 k.1, .int .i64 k.2] 47)) (.cells #[.int .i64 0, .int .i64 0] 47)
  have hU := ((Upd.refl Nil w).alloc (.cells #[.int .i64 k.1, .int .i64 k.2] 47)).alloc (.cells #[.int .i64 0, .int .i64 0] 47)
  rw [show (w.alloc (.cells #[.int .i64 k.1, .int .i64 k.2] 47)).heap.size = w.heap.size + 1 by simp] at hz
  go_enter Try.func31, Try.ntmps31
  go_wp2_with fail
  generalize (w.alloc (.cells #[.int .i64 k.1, .int .i64 k.2] 47)).alloc (.cells #[.int .i64 0, .int .i64 0] 47) = W at *
  have hnr : w.heap.size ≤ w.heap.size ∧ w.heap.size ≤ w.heap.size + 1 ∧ w.heap.size ≠ w.heap.size + 1 := by omega
  generalize w.heap.size + 1 = rb at *
  refine (drop hxx k hk).mono ?_
  rintro e w1 ⟨rfl, f1', g1', r1, u1⟩
  have hdl : (ns.filter (fun b => K b != k)).length ≤ ns.length := List.length_filter_le _ _
  have hq0 : nodeOf (ns.filter (fun b => K b != k)) K k = 0 := by rw [node_filter, if_pos rfl]
  have hrd := rows_drop ns K V k
  generalize ns.filter (fun b => K b != k) = nd at *
  replace hz := u1.blk hz (fun e => by have := hF _ e; omega)
  replace hx := u1.blk hx (fun e => by have := hF _ e; omega)
  have hUF := (hU.mono (S' := F) (fun _ h => h.elim)).tr u1
  have c0 := blk_cell r1.rg.cb 0
  have c1 := blk_cell r1.rg.cb 1
  have x0 := blk_cell hx 0
  have x1 := blk_cell hx 1
  simp only [List.getElem?_toArray, List.getElem?_cons_zero, List.getElem?_cons_succ] at c0 c1 x0 x1
  have f0 := blk_frozen hz 0
  have f1 := blk_frozen hz 1
  have z0 := blk_cell hz 0
  have z1 := blk_cell hz 1
  simp only [List.getElem?_toArray, List.getElem?_cons_zero, List.getElem?_cons_succ] at z0 z1
  have hnH := Lib.hid hnr
  have hdH := Lib.hid (And.intro hdl (And.intro hq0 hrd))
  clear hnr hdl hq0 hrd
  by_cases h0 : room = 0
  · subst h0
    go_wp2_with fail
    obtain ⟨d0, d1⟩ := two_set (.int .i64 0) (.int .i64 0) z0 z1
    rw [← hR2.out]
    refine bodyPost_ret (v := .tuple #[.agg #[.int .i64 0, .int .i64 0], .bool false]) (by simp [results, Try.results31, go_sem, d0, d1]) rfl ?_
    obtain ⟨hn1, hn2, hn3⟩ := hnH.out
    obtain ⟨hdl, hq0, hrd⟩ := hdH.out
    have hp : putK (0 : Int).toNat (rowsOf ns K V) k s = (dropK (rowsOf ns K V) k, none) := by unfold putK; rw [if_pos (by rfl)]
    have uz : Upd (Only rb) w1 ((w1.setCell ⟨rb, 0, none⟩ (.int .i64 0)).setCell ⟨rb, 1, none⟩ (.int .i64 0)) := ((Upd.refl _ _).set1 _).set1 _
    have hnF : ¬ F rb := fun e => by have := hF _ e; omega
    unfold PutR
    rw [hp]
    refine ⟨rfl, nd, K, V, f1', g1', ?_, by rw [← hrd], (hUF.setNew hn2 _).setNew hn2 _⟩
    have r2 := r1.upd uz (fun y hy e => hnF (by have e : y = rb := e; subst e; exact hy))
    exact ⟨r2.rg, r2.mp, r2.wk, r2.ky, fun y hy => .inl (r2.own y hy), r2.hr⟩
  · go_wp2_with fail
    have hb := blk_new w1 (.cells #[.int .i64 k.1, .int .i64 k.2, .string s, .pointer none, .pointer none] 121)
    have v2 := (Upd.refl Nil w1).alloc (.cells #[.int .i64 k.1, .int .i64 k.2, .string s, .pointer none, .pointer none] 121)
    have r2 := r1.upd0 v2
    have hrn := blk_lt hz
    have hfr : w1.heap.size ∉ c :: nd ∧ w1.heap.size ≠ M ∧ w.heap.size ≤ w1.heap.size := ⟨fun e => absurd (r1.rg.toCl.lt _ e) (by omega), fun e => absurd r1.mp.lt (by omega), hUF.size⟩
    replace hx := v2.blk hx (fun h => h)
    replace hz := v2.blk hz (fun h => h)
    have hUF2 := hUF.tr (v2.mono (S' := F) (fun _ h => h.elim))
    clear c0 c1 x0 x1 f0 f1 z0 z1
    generalize w1.alloc (.cells #[.int .i64 k.1, .int .i64 k.2, .string s, .pointer none, .pointer none] 121) = W2 at *
    generalize w1.heap.size = nn at *
    have hlen : nd.length < 1000000 := by have := hdH.out.1; omega
    obtain ⟨w3, hrun, hm3, u3⟩ := (r2.mp.upd (Upd.refl Nil W2).drew (fun h => h)).put hlen hk nn
    rw [if_pos hdH.out.2.1] at hm3
    have u3' : Upd (Only M) W2 w3 := (Upd.refl (Only M) W2).drew.tr u3
    have hrg3 := r2.rg.upd u3' (fun y hy e => r2.ne (by have e : y = M := e; subst e; exact hy))
    have hb3 := u3'.blk hb hfr.2.1
    have hxM : w.heap.size ≠ M ∧ rb ≠ M := by
      have := hF M (r1.own M (by simp))
      have := hnH.out
      omega
    have c1 := blk_cell r2.rg.cb 1
    have x0 := blk_cell hx 0
    have x1 := blk_cell hx 1
    simp only [List.getElem?_toArray, List.getElem?_cons_zero, List.getElem?_cons_succ] at c1 x0 x1
    refine wp_region_lexW (Upd (Only M)) (fun _ => Upd.refl _ _) (fun _ _ _ h k => h.tr k) [(0, true), (1, true), (2, true), (3, true), (4, true), (5, true), (6, false)] (by kernel_rfl) (by kernel_rfl) rfl (by kernel_rfl) (by kernel_rfl) ?_
    simp only [inOrderW, List.filterMap_cons, List.filterMap_nil, List.getElem?_cons_zero, List.getElem?_cons_succ, Option.map_some]
    try simp only [Act.put, List.setIfInBounds_toArray, List.set_cons_zero, List.set_cons_succ]
    repeat
      first
      | (refine lexW_sure (v := ?_) rfl rfl ?_ ?_
         rotate_left
         · go_simp
           try with_reducible rfl
         try simp only [Act.put, List.setIfInBounds_toArray, List.set_cons_zero, List.set_cons_succ])
      | (refine lexW_pure (v := ?_) rfl rfl ?_ ?_
         rotate_left
         · intro w' hU'
           go_simp
           try with_reducible rfl
         try simp only [Act.put, List.setIfInBounds_toArray, List.set_cons_zero, List.set_cons_succ])
      | (refine lexW_skip rfl ?_
         try simp only [Act.put, List.setIfInBounds_toArray, List.set_cons_zero, List.set_cons_succ])
    refine lexW_mapu _ _ _ _ rfl rfl hrun u3 ?_
    refine lexW_done ?_
    go_wp2_with fail
    refine (firstR hrg3 hfr.1 (k := k) (v := s) hb3).mono ?_
    rintro e w4 ⟨rfl, f2, g2, hrg4, u4⟩
    have hm4 := hm3.upd u4 (fun e => by
      simp [In] at e
      rcases e with e | e | e
      · exact hfr.2.1 e.symm
      · exact r2.ne (by simp [e])
      · exact r2.ne (by simp [e]))
    have u4' : ∀ b, w4.heap.size ≤ b → Upd (More F w.heap.size b) W2 w4 := fun b hb => (u3'.mono (S' := More F w.heap.size b) (fun y hy => by cases hy; exact .inl (r1.own M (by simp)))).tr (u4.mono (fun y hy => by
      simp [In] at hy
      rcases hy with e | e | e
      · subst e
        have := u4.size
        exact .inr ⟨hfr.2.2, by have := blk_lt hb3; omega⟩
      · exact .inl (r1.own y (by simp [e]))
      · exact .inl (r1.own y (by simp [e]))))
    have hnn4 : nn < w4.heap.size := by
      have := blk_lt hb3
      have := u4.size
      omega
    have x4 : Cx (More F w.heap.size w4.heap.size) w4 c M room (nn :: nd) (ups K nn k) (ups V nn s) f2 g2 h m := r1.grow hk hfr.1 hdH.out.2.1 ⟨hfr.2.2, hnn4⟩ hrg4 hm4
    have hrows := rows_cons (n := nn) (ns := nd) (fun e => hfr.1 (by simp [e])) K V k s
    have hrF : ¬ F rb := fun e => by
      have := hF rb e
      have := hnH.out
      omega
    replace hz := u4.blk (u3'.blk hz (fun e => hxM.2 (by cases e; rfl))) (fun e => by
      simp [In] at e
      rcases e with e | e | e
      · omega
      · exact hrF (r1.own rb (by simp [e]))
      · exact hrF (r1.own rb (by simp [e])))
    have hUF4 : Upd F w w4 := hUF2.trans (u4' _ (Nat.le_refl _)) (fun y hy => hy.elim .inl (fun e => .inr e.1))
    have c0 := blk_cell x4.rg.cb 0
    have c1 := blk_cell x4.rg.cb 1
    have c5 := blk_cell x4.rg.cb 5
    simp only [List.getElem?_toArray, List.getElem?_cons_zero, List.getElem?_cons_succ] at c0 c1 c5
    have f0 := blk_frozen hz 0
    have f1 := blk_frozen hz 1
    have z0 := blk_cell hz 0
    have z1 := blk_cell hz 1
    simp only [List.getElem?_toArray, List.getElem?_cons_zero, List.getElem?_cons_succ] at z0 z1
    have hlr : ∀ w', Upd Nil w4.drew w' → (Builtin.len_ #[118] 3 #[.map (some M)]).run Try.prog w' = .ok (.int .i64 ((nn :: nd).length : Nat)) w' := fun w' u => (x4.mp.upd ((Upd.refl Nil w4).drew.tr u) (fun h => h)).len 3
    clear hx x0 x1 hrg3 hm3 hrg4 hm4 u3 u3' hb hb3 hrun r2 v2 u4 u4'
    have hnnH := Lib.hid hnn4
    have hfrH := Lib.hid (And.intro hfr hrn)
    have hroH := Lib.hid hrows
    clear hnn4 hfr hrn hrows
    have hrb : ∀ y ∈ c :: M :: nn :: nd, ¬ Only rb y := fun y hy e => by
      have e : y = rb := e
      subst e
      simp at hy
      rcases hy with e | e | e | e
      · exact hrF (r1.own _ (by simp [e]))
      · exact hrF (r1.own _ (by simp [e]))
      · have := hfrH.out.2
        omega
      · exact hrF (r1.own _ (by simp [e]))
    have hln : (((nn :: nd).length : Nat) : Int) = (nd.length : Int) + 1 := by simp
    rw [hln] at hlr
    by_cases hle : (nd.length : Int) + 1 ≤ room
    · go_wp2_with fail
      refine wp_region_lexW (Upd Nil) (fun _ => Upd.refl _ _) (fun _ _ _ h k => h.tr k) [(0, true), (1, true), (2, true), (3, true), (4, true), (5, true), (6, true), (7, true), (8, true), (9, true)] (by kernel_rfl) (by kernel_rfl) rfl (by kernel_rfl) (by kernel_rfl) ?_
      simp only [inOrderW, List.filterMap_cons, List.filterMap_nil, List.getElem?_cons_zero, List.getElem?_cons_succ, Option.map_some]
      try simp only [Act.put, List.setIfInBounds_toArray, List.set_cons_zero, List.set_cons_succ]
      repeat
        first
        | (refine lexW_sure (v := ?_) rfl rfl ?_ ?_
           rotate_left
           · go_simp
             try with_reducible rfl
           try simp only [Act.put, List.setIfInBounds_toArray, List.set_cons_zero, List.set_cons_succ])
        | (refine lexW_pure (v := ?_) rfl rfl ?_ ?_
           rotate_left
           · intro w' hU'
             go_simp
             try with_reducible rfl
           try simp only [Act.put, List.setIfInBounds_toArray, List.set_cons_zero, List.set_cons_succ])
        | (refine lexW_skip rfl ?_
           try simp only [Act.put, List.setIfInBounds_toArray, List.set_cons_zero, List.set_cons_succ])
      refine lexW_done ?_
      clear hlr
      go_wp2_with fail
      obtain ⟨d0, d1⟩ := two_set (.int .i64 0) (.int .i64 0) z0 z1
      rw [← hR2.out]
      refine bodyPost_ret (v := .tuple #[.agg #[.int .i64 0, .int .i64 0], .bool false]) (by simp [results, Try.results31, go_sem, d0, d1]) rfl ?_
      obtain ⟨hn1, hn2, hn3⟩ := hnH.out
      obtain ⟨hdl, hq0, hrd⟩ := hdH.out
      have hp : putK room.toNat (rowsOf ns K V) k s = ((k, s) :: dropK (rowsOf ns K V) k, none) := by
        unfold putK
        have : (rowsOf nd K V).length = nd.length := by simp [rowsOf]
        rw [if_neg (by omega), hrd, if_pos (by omega)]
      unfold PutR
      rw [hp]
      refine ⟨rfl, nn :: nd, _, _, f2, g2, ?_, by rw [hroH.out, hrd], ((hUF4.setNew hn2 _).setNew hn2 _).drew⟩
      have uz : Upd (Only rb) w4 ((w4.setCell ⟨rb, 0, none⟩ (.int .i64 0)).setCell ⟨rb, 1, none⟩ (.int .i64 0)).drew := (((Upd.refl _ _).set1 _).set1 _).drew
      exact (x4.updB uz hrb).mono (fun y hy => hy.elim .inl (fun q => .inr ⟨q.1, Nat.lt_of_lt_of_le q.2 uz.size⟩))
    · go_wp2_with fail
      refine wp_region_lexW (Upd Nil) (fun _ => Upd.refl _ _) (fun _ _ _ h k => h.tr k) [(0, true), (1, true), (2, true), (3, true), (4, true), (5, true), (6, true), (7, true), (8, true), (9, true)] (by kernel_rfl) (by kernel_rfl) rfl (by kernel_rfl) (by kernel_rfl) ?_
      simp only [inOrderW, List.filterMap_cons, List.filterMap_nil, List.getElem?_cons_zero, List.getElem?_cons_succ, Option.map_some]
      try simp only [Act.put, List.setIfInBounds_toArray, List.set_cons_zero, List.set_cons_succ]
      repeat
        first
        | (refine lexW_sure (v := ?_) rfl rfl ?_ ?_
           rotate_left
           · go_simp
             try with_reducible rfl
           try simp only [Act.put, List.setIfInBounds_toArray, List.set_cons_zero, List.set_cons_succ])
        | (refine lexW_pure (v := ?_) rfl rfl ?_ ?_
           rotate_left
           · intro w' hU'
             go_simp
             try with_reducible rfl
           try simp only [Act.put, List.setIfInBounds_toArray, List.set_cons_zero, List.set_cons_succ])
        | (refine lexW_skip rfl ?_
           try simp only [Act.put, List.setIfInBounds_toArray, List.set_cons_zero, List.set_cons_succ])
      refine lexW_done ?_
      clear hlr
      have hzl : g2 c = (nn :: nd).getLast (by simp) := (chain_last _ _ _ x4.rg.ch).trans (List.getLast_cons (by simp))
      have hzm : g2 c ∈ nn :: nd := by rw [hzl]; exact List.getLast_mem _
      have hzc : g2 c ≠ c := fun e => x4.rg.nc (by rw [← e]; exact hzm)
      have hla := rows_last (ns := nn :: nd) (by simp) (ups K nn k) (ups V nn s) hzl
      rw [show pv c (g2 c) = .pointer (some ⟨g2 c, 0, none⟩) by unfold pv; rw [off_n hzc]] at c5
      have hnz := x4.rg.nb (g2 c) hzm
      have hwz := x4.wk (g2 c) hzm
      have hap := x4.apart
      have hro := hroH.out
      generalize ups K nn k = K2 at *
      generalize ups V nn s = V2 at *
      have y0 := blk_cell hnz 0
      have y1 := blk_cell hnz 1
      simp only [List.getElem?_toArray, List.getElem?_cons_zero, List.getElem?_cons_succ] at y0 y1
      generalize g2 c = z at *
      rw [hla] at hap
      have hdl2 := drop_last hap
      rw [← hla] at hdl2
      have hpk := Lib.hid (And.intro hro (And.intro hla (And.intro hdl2 hzm)))
      clear hro hla hdl2 hzm hap hzl hzc
      have x5 := (x4.tight.upd0 (((Upd.refl Nil w4).alloc (.cells #[.int .i64 (K2 z).1, .int .i64 (K2 z).2] 47)).drew))
      have hUF5 := (hUF4.alloc (.cells #[.int .i64 (K2 z).1, .int .i64 (K2 z).2] 47)).drew
      have hz5 := blk_drew (blk_alloc hz (.cells #[.int .i64 (K2 z).1, .int .i64 (K2 z).2] 47))
      have hy5 := blk_drew (blk_new w4 (.cells #[.int .i64 (K2 z).1, .int .i64 (K2 z).2] 47))
      have hv5 : w4.heap.size ≤ (w4.alloc (.cells #[.int .i64 (K2 z).1, .int .i64 (K2 z).2] 47)).drew.heap.size := by
        have := ((Upd.refl Nil w4).alloc (.cells #[.int .i64 (K2 z).1, .int .i64 (K2 z).2] 47)).drew.size
        exact this
      have hgb : w4.heap.size ∉ c :: M :: nn :: nd := fun e => by
        simp only [List.mem_cons] at e
        rcases e with e | e | e
        · exact absurd (blk_lt x4.rg.cb) (by omega)
        · exact absurd x4.mp.lt (by omega)
        · exact absurd (blk_lt (x4.rg.nb _ (by simpa using e))) (by omega)
      have hnz5 := x5.rg.nb z hpk.out.2.2.2
      go_wp2_with fail
      generalize (w4.alloc (.cells #[.int .i64 (K2 z).1, .int .i64 (K2 z).2] 47)).drew = W5 at *
      clear y0 y1 z0 z1 f0 f1 c0 c1 c5 hnz hnz5
      generalize w4.heap.size = gb at *
      refine (drop x5 (K2 z) hwz).mono ?_
      rintro e w6 ⟨rfl, f6, g6, x6, u6⟩
      have hz := u6.blk hz5 (fun e => hrb rb e rfl)
      have hy := u6.blk hy5 hgb
      have f0 := blk_frozen hz 0
      have f1 := blk_frozen hz 1
      have z0 := blk_cell hz 0
      have z1 := blk_cell hz 1
      simp only [List.getElem?_toArray, List.getElem?_cons_zero, List.getElem?_cons_succ] at z0 z1
      have y0 := blk_cell hy 0
      have y1 := blk_cell hy 1
      simp only [List.getElem?_toArray, List.getElem?_cons_zero, List.getElem?_cons_succ] at y0 y1
      go_wp2_with fail
      obtain ⟨d0, d1⟩ := two_set (.int .i64 (K2 z).1) (.int .i64 (K2 z).2) z0 z1
      rw [← hR2.out]
      refine bodyPost_ret (v := .tuple #[.agg #[.int .i64 (K2 z).1, .int .i64 (K2 z).2], .bool true]) (by simp [results, Try.results31, go_sem, d0, d1]) rfl ?_
      obtain ⟨hn1, hn2, hn3⟩ := hnH.out
      obtain ⟨hdl, hq0, hrd⟩ := hdH.out
      obtain ⟨hro, hla, hdl2, hzm⟩ := hpk.out
      have hp : putK room.toNat (rowsOf ns K V) k s = ((rowsOf (nn :: nd) K2 V2).dropLast, some (K2 z)) := by
        unfold putK
        have : (rowsOf nd K V).length = nd.length := by simp [rowsOf]
        rw [if_neg (by omega), hrd, if_neg (by omega), ← hro]
        conv => lhs; rhs; rw [hla]
        simp
      have u46 : Upd F w w6 := hUF5.trans u6 (fun y hy => by
        have hy : y ∈ c :: M :: nn :: nd := hy
        simp at hy
        rcases hy with e | e | e | e
        · exact .inl (r1.own _ (by simp [e]))
        · exact .inl (r1.own _ (by simp [e]))
        · exact .inr (by rw [e]; exact hfrH.out.1.2.2)
        · exact .inl (r1.own _ (by simp [e])))
      have uz : Upd (Only rb) w6 ((w6.setCell ⟨rb, 0, none⟩ (.int .i64 (K2 z).1)).setCell ⟨rb, 1, none⟩ (.int .i64 (K2 z).2)) := (((Upd.refl _ _).set1 _).set1 _)
      unfold PutR
      rw [hp]
      refine ⟨rfl, _, K2, V2, f6, g6, ?_, by rw [← hdl2, rows_drop], ((u46.setNew hn2 _).setNew hn2 _)⟩
      refine ((x6.updB uz (fun y hy e => hrb y (x6.own y hy) e)).mono (fun y hy => ?_))
      have hy : y ∈ c :: M :: nn :: nd := hy
      have hlt : nn < ((w6.setCell ⟨rb, 0, none⟩ (.int .i64 (K2 z).1)).setCell ⟨rb, 1, none⟩ (.int .i64 (K2 z).2)).heap.size := by
        have := uz.size
        have := u6.size
        have := hnnH.out
        omega
      simp at hy
      rcases hy with e | e | e | e
      · exact .inl (r1.own _ (by simp [e]))
      · exact .inl (r1.own _ (by simp [e]))
      · exact .inr (by rw [e]; exact ⟨hfrH.out.1.2.2, hlt⟩)
      · exact .inl (r1.own _ (by simp [e]))
end Go.Proofs.Ytcifkccaiekkeaa.Cache
