/-
  The cache's ring in memory: what its nodes hold, and what a cut and a putting first make of it. Conditions: each lemma's own.
-/
import Derived.Test.YtcifkccaiekkeaaCacheA
namespace Go.Proofs.Ytcifkccaiekkeaa.Cache
open Go.RowKit Go.Proofs.Ytcifkccaiekkeaa.Base Go.Maps Go.Proofs.Ytcifkccaiekkeaa.Ints
set_option linter.unusedVariables false
set_option linter.unusedSimpArgs false
def off (c b : Nat) : Nat := if b = c then 2 else 0
def pv (c b : Nat) : Value := .pointer (some ⟨b, off c b, none⟩)
theorem off_c (c : Nat) : off c c = 2 := by simp [off]
theorem off_n {c b : Nat} (h : b ≠ c) : off c b = 0 := by simp [off, h]
def nO (k : Key) (v : ByteArray) (x y : Value) : Obj := .cells #[.int .i64 k.1, .int .i64 k.2, .string v, x, y] 121 (0, 0)
def cO (c M : Nat) (room : Int) (x y : Value) (h m : Int) : Obj := .cells #[.int .i64 room, .map (some M), .int .i64 0, .int .i64 0, .string ⟨#[]⟩, x, y, .int .i64 h, .int .i64 m] 125 (0, 0)
/-- The cells of a cache and its nodes. -/
structure Cl (w : World) (c M : Nat) (room : Int) (ns : List Nat) (K : Nat → Key) (V : Nat → ByteArray) (f g : Nat → Nat) (h m : Int) : Prop where
  cb : w.heap[c]? = some (cO c M room (pv c (g c)) (pv c (f c)) h m)
  nb : ∀ b ∈ ns, w.heap[b]? = some (nO (K b) (V b) (pv c (g b)) (pv c (f b)))
  nc : c ∉ ns
/-- .. and they are a ring. -/
structure Rg (w : World) (c M : Nat) (room : Int) (ns : List Nat) (K : Nat → Key) (V : Nat → ByteArray) (f g : Nat → Nat) (h m : Int) : Prop extends Cl w c M room ns K V f g h m where
  ch : Chain f g c ns c
  nd : ns.Nodup
section
variable {w w' : World} {c M : Nat} {room : Int} {ns : List Nat} {K : Nat → Key} {V : Nat → ByteArray} {f g : Nat → Nat} {h m : Int}
theorem Cl.upd (r : Cl w c M room ns K V f g h m) {S : Nat → Prop} (u : Upd S w w') (hs : ∀ x ∈ c :: ns, ¬ S x) : Cl w' c M room ns K V f g h m :=
  ⟨u.blk r.cb (hs c (by simp)), fun b hb => u.blk (r.nb b hb) (hs b (by simp [hb])), r.nc⟩
theorem Cl.like (r : Cl w c M room ns K V f g h m) (u : Like w w') : Cl w' c M room ns K V f g h m :=
  ⟨by rw [u.1]; exact r.cb, fun b hb => by rw [u.1]; exact r.nb b hb, r.nc⟩
theorem Rg.upd (r : Rg w c M room ns K V f g h m) {S : Nat → Prop} (u : Upd S w w') (hs : ∀ x ∈ c :: ns, ¬ S x) : Rg w' c M room ns K V f g h m := ⟨r.toCl.upd u hs, r.ch, r.nd⟩
theorem Cl.lt (r : Cl w c M room ns K V f g h m) : ∀ x ∈ c :: ns, x < w.heap.size := fun x hx => by
  rcases List.mem_cons.1 hx with rfl | hx
  · exact blk_lt r.cb
  · exact blk_lt (r.nb x hx)
theorem Cl.at (r : Cl w c M room ns K V f g h m) {p : Nat} (hp : p ∈ c :: ns) : w.cell? ⟨p, off c p + 4, none⟩ = some (pv c (f p)) ∧ w.cell? ⟨p, off c p + 3, none⟩ = some (pv c (g p)) ∧ ∀ i, w.frozen? ⟨p, i, none⟩ = false := by
  rcases List.mem_cons.1 hp with rfl | hp
  · rw [off_c]
    exact ⟨(blk_cell r.cb _).trans rfl, (blk_cell r.cb _).trans rfl, fun i => blk_frozen r.cb i⟩
  · rw [off_n (fun e => r.nc (by rw [← e]; exact hp))]
    exact ⟨(blk_cell (r.nb p hp) _).trans rfl, (blk_cell (r.nb p hp) _).trans rfl, fun i => blk_frozen (r.nb p hp) i⟩
theorem Cl.setF (r : Cl w c M room ns K V f g h m) {p : Nat} (hp : p ∈ c :: ns) (v : Nat) : Cl (w.setCell ⟨p, off c p + 4, none⟩ (pv c v)) c M room ns K V (ups f p v) g h m := by
  refine ⟨?_, fun b hb => ?_, r.nc⟩
  · by_cases e : p = c
    · subst e
      rw [off_c, ups_same]
      exact blk_put r.cb _ _ rfl
    · rw [ups_ne _ _ (Ne.symm e)]
      exact blk_other r.cb (p := ⟨p, _, none⟩) (Ne.symm e) _
  · by_cases e : p = b
    · subst e
      rw [off_n (fun e => r.nc (by rw [← e]; exact hb)), ups_same]
      exact blk_put (r.nb p hb) _ _ rfl
    · rw [ups_ne _ _ (Ne.symm e)]
      exact blk_other (r.nb b hb) (p := ⟨p, _, none⟩) (Ne.symm e) _
theorem Cl.setG (r : Cl w c M room ns K V f g h m) {p : Nat} (hp : p ∈ c :: ns) (v : Nat) : Cl (w.setCell ⟨p, off c p + 3, none⟩ (pv c v)) c M room ns K V f (ups g p v) h m := by
  refine ⟨?_, fun b hb => ?_, r.nc⟩
  · by_cases e : p = c
    · subst e
      rw [off_c, ups_same]
      exact blk_put r.cb _ _ rfl
    · rw [ups_ne _ _ (Ne.symm e)]
      exact blk_other r.cb (p := ⟨p, _, none⟩) (Ne.symm e) _
  · by_cases e : p = b
    · subst e
      rw [off_n (fun e => r.nc (by rw [← e]; exact hb)), ups_same]
      exact blk_put (r.nb p hb) _ _ rfl
    · rw [ups_ne _ _ (Ne.symm e)]
      exact blk_other (r.nb b hb) (p := ⟨p, _, none⟩) (Ne.symm e) _
theorem Cl.add (r : Cl w c M room ns K V f g h m) {n : Nat} (hn : n ∉ c :: ns) {k : Key} {v : ByteArray} {x y : Nat} (hb : w.heap[n]? = some (nO k v (pv c x) (pv c y))) :
    Cl w c M room (n :: ns) (ups K n k) (ups V n v) (ups f n y) (ups g n x) h m := by
  have hnc : n ≠ c := fun e => hn (by simp [e])
  have hns : n ∉ ns := fun e => hn (by simp [e])
  refine ⟨?_, fun b hb2 => ?_, fun e => ?_⟩
  · rw [ups_ne _ _ hnc.symm, ups_ne _ _ hnc.symm]
    exact r.cb
  · rcases List.mem_cons.1 hb2 with rfl | hb2
    · rw [ups_same, ups_same, ups_same, ups_same]
      exact hb
    · have : b ≠ n := fun e => hns (by rw [← e]; exact hb2)
      rw [ups_ne _ _ this, ups_ne _ _ this, ups_ne _ _ this, ups_ne _ _ this]
      exact r.nb b hb2
  · rcases List.mem_cons.1 e with e | e
    · exact hnc e.symm
    · exact r.nc e
theorem Cl.sub (r : Cl w c M room ns K V f g h m) {l : List Nat} (hl : ∀ x ∈ l, x ∈ ns) : Cl w c M room l K V f g h m := ⟨r.cb, fun b hb => r.nb b (hl b hb), fun e => r.nc (hl c e)⟩
theorem Upd.like {S : Nat → Prop} {a w w' : World} (u : Upd S a w) (h : Like w w') : Upd S a w' := ⟨h.2.1.trans u.os, h.2.2.trans u.output, by rw [h.1]; exact u.size, fun k hk hn => by rw [h.1]; exact u.block k hk hn⟩
def In (l : List Nat) : Nat → Prop := fun x => x ∈ l
theorem cutR {A B : List Nat} {n : Nat} (r : Rg w c M room (A ++ n :: B) K V f g h m) : Calls Try.prog 73 #[.pointer (some ⟨n, 0, none⟩)] w fun e w' => e = .returned (.tuple #[]) ∧
    ∃ f' g', Rg w' c M room (A ++ B) K V f' g' h m ∧ (∃ x y, w'.heap[n]? = some (nO (K n) (V n) (pv c x) (pv c y))) ∧ Upd (In (c :: (A ++ n :: B))) w w' := by
  have hm : n ∈ A ++ n :: B := by simp
  have hnc : n ≠ c := fun e => r.nc (by rw [← e]; exact hm)
  have ⟨m1, m2⟩ := chain_mid A c n c B r.ch
  have hp : g n ∈ c :: (A ++ n :: B) := by
    simp at m1 ⊢
    rcases m1 with e | e <;> simp [e]
  have hq : f n ∈ c :: (A ++ n :: B) := by
    simp at m2 ⊢
    rcases m2 with e | e <;> simp [e]
  have an := r.toCl.at (List.mem_cons_of_mem c hm)
  rw [off_n hnc] at an
  have ap := r.toCl.at hp
  have aq := r.toCl.at hq
  refine (cut n (g n) (off c (g n)) (f n) (off c (f n)) w an.2.1 an.1 _ _ ap.1 (ap.2.2 _) aq.2.1 (aq.2.2 _)).mono ?_
  rintro e w' ⟨rfl, hL⟩
  have r2 := ((r.toCl.setF hp (f n)).setG hq (g n)).like hL
  have u : Upd (In (c :: (A ++ n :: B))) w w' := Upd.like (((Upd.refl _ w).set (p := ⟨g n, off c (g n) + 4, none⟩) (.inl hp) _).set (p := ⟨f n, off c (f n) + 3, none⟩) (.inl hq) _) hL
  refine ⟨rfl, _, _, ⟨r2.sub (fun x hx => by simp at hx ⊢; rcases hx with e | e <;> simp [e]), ?_, ?_⟩, ⟨_, _, r2.nb n hm⟩, u⟩
  · exact chain_cut A c n c B r.ch (List.nodup_cons.2 ⟨r.nc, r.nd⟩) r.nc
  · exact r.nd.sublist (by simp)
theorem firstR {n : Nat} (r : Rg w c M room ns K V f g h m) (hn : n ∉ c :: ns) {k : Key} {v : ByteArray} {u1 u2 : Value} (hb : w.heap[n]? = some (nO k v u1 u2)) :
    Calls Try.prog 71 #[.pointer (some ⟨c, 2, none⟩), .pointer (some ⟨n, 0, none⟩)] w fun e w' => e = .returned (.tuple #[]) ∧
    ∃ f' g', Rg w' c M room (n :: ns) (ups K n k) (ups V n v) f' g' h m ∧ Upd (In (n :: c :: ns)) w w' := by
  have hnc : n ≠ c := fun e => hn (by simp [e])
  have ⟨m1, m2⟩ := chain_mem ns c c r.ch
  have hq : f c ∈ c :: ns := by
    have := m1 c (by simp)
    simp at this ⊢
    rcases this with e | e <;> simp [e]
  have hqn : f c ≠ n := fun e => hn (by rw [← e]; exact hq)
  have ac := r.toCl.at (p := c) (by simp)
  rw [off_c] at ac
  have aq := r.toCl.at hq
  refine (first c n (f c) (off c (f c)) w hnc hqn u1 u2 _ ac.1 (ac.2.2 _) ((blk_cell hb 3).trans rfl) (blk_frozen hb _) ((blk_cell hb 4).trans rfl) (blk_frozen hb _) aq.2.1 (aq.2.2 _)).mono ?_
  rintro e w' ⟨rfl, hL⟩
  have hS : ∀ x ∈ c :: ns, ¬ Only n x := fun x hx e => hn (by cases e; exact hx)
  have uA : Upd (Only n) w ((w.setCell ⟨n, 3, none⟩ (.pointer (some ⟨c, 2, none⟩))).setCell ⟨n, 4, none⟩ (pv c (f c))) := ((Upd.refl _ w).set1 _).set1 _
  have hb2 := blk_put (blk_put hb 3 (.pointer (some ⟨c, 2, none⟩)) rfl) 4 (pv c (f c)) rfl
  have r1 := (r.toCl.upd uA hS).add hn (x := c) (y := f c) (k := k) (v := v) (by rw [show pv c c = .pointer (some ⟨c, 2, none⟩) by unfold pv; rw [off_c]]; exact hb2)
  have r2 := (r1.setF (p := c) (by simp) n).setG (p := f c) (by simp at hq ⊢; rcases hq with e | e <;> simp [e]) n
  rw [off_c, show pv c n = .pointer (some ⟨n, 0, none⟩) by unfold pv; rw [off_n hnc]] at r2
  have u : Upd (In (n :: c :: ns)) w w' := Upd.like ((uA.mono (S' := In (n :: c :: ns)) (fun x hx => by cases hx; simp [In])).set (p := ⟨c, 6, none⟩) (.inl (by simp [In])) _ |>.set (p := ⟨f c, off c (f c) + 3, none⟩) (.inl (List.mem_cons_of_mem _ hq)) _) hL
  exact ⟨rfl, _, _, ⟨r2.like hL, chain_first r.ch (List.nodup_cons.2 ⟨hn, List.nodup_cons.2 ⟨r.nc, r.nd⟩⟩), List.nodup_cons.2 ⟨fun e => hn (by simp [e]), r.nd⟩⟩, u⟩
end
end Go.Proofs.Ytcifkccaiekkeaa.Cache
