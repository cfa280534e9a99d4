/-
  What two sets make is what the document says; neither changes: the walk. Conditions: what the arguments' slices hold; the table of Go's library is as it was laid.
-/
import Derived.Test.YtjkojhebgkgdaaaDoorBitAa
namespace Go.Proofs.YtjkojhebgkgdaaaDoor.Bit
open Go.RowKit Go.Proofs.YtjkojhebgkgdaaaDoor.Base Go.Proofs.YtjkojhebgkgdaaaDoor.Ints Go.Proofs.YtjkojhebgkgdaaaDoor.Ecc
set_option linter.unusedVariables false
set_option linter.unusedSimpArgs false
set_option maxRecDepth 100000
set_option maxHeartbeats 16000000 in
theorem mixesC (A B : Option Addr) (ca cb : Nat) (size other : Int) (l m : List Int) (w : World) (hA : Arg w A 1 ic l) (hB : Arg w B 1 ic m) (hT : Tab w) :
    Calls Tryd.prog 4 #[.int .i64 size, .slice A l.length ca, .int .i64 other, .slice B m.length cb] w (RetB true w) := by
  have hF := fixedC w hT
  by_cases h1 : 100 < l.length
  · have h1I : (100 : Int) < (l.length : Int) := by omega
    go_enter Tryd.func4, Tryd.ntmps4
    go_wp2_with fail
    refine hF.mono ?_
    rintro e w1 ⟨rfl, hU1⟩
    go_wp2_with fail
    go_ret
    exact ⟨rfl, hU1⟩
  have h1I : ¬ (100 : Int) < (l.length : Int) := by omega
  by_cases h2 : 100 < m.length
  · have h2I : (100 : Int) < (m.length : Int) := by omega
    go_enter Tryd.func4, Tryd.ntmps4
    go_wp2_with fail
    refine hF.mono ?_
    rintro e w1 ⟨rfl, hU1⟩
    go_wp2_with fail
    go_ret
    exact ⟨rfl, hU1⟩
  have h2I : ¬ (100 : Int) < (m.length : Int) := by omega
  by_cases h3 : size < 0
  · skip
    go_enter Tryd.func4, Tryd.ntmps4
    go_wp2_with fail
    refine hF.mono ?_
    rintro e w1 ⟨rfl, hU1⟩
    go_wp2_with fail
    go_ret
    exact ⟨rfl, hU1⟩
  by_cases h4 : 4096 < size
  · skip
    go_enter Tryd.func4, Tryd.ntmps4
    go_wp2_with fail
    refine hF.mono ?_
    rintro e w1 ⟨rfl, hU1⟩
    go_wp2_with fail
    go_ret
    exact ⟨rfl, hU1⟩
  obtain ⟨n, rfl⟩ := Int.eq_ofNat_of_zero_le (show 0 ≤ size by omega)
  have hn : n ≤ 4096 := by omega
  have k1 := fun w hA => newC n hn A ca l w hA (by omega)
  have k2 := fun w hA => rnewC n hn A ca l w hA (by omega)
  by_cases h5 : other < 0 ∨ 4096 < other
  · have k3 := newN other h5 (.slice B m.length cb)
    clear h5
    go_enter Tryd.func4, Tryd.ntmps4
    go_wp2_with fail
    refine hF.mono ?_
    rintro e w1 ⟨rfl, hU1⟩
    go_wp2_with fail
    refine (k1 _ (hA.upd hU1)).mono ?_
    rintro e w2 ⟨g, gb, rfl, _, _, hs, hU2⟩
    have hU02 := hU1.tr hU2
    go_wp2_with fail
    refine (k3 _).mono ?_
    rintro e w' ⟨rfl, rfl⟩
    go_wp2_with fail
    refine (k2 _ (hA.upd hU02)).mono ?_
    rintro e wq ⟨gr9, rfl, _, hr9, hU3⟩
    have hU := hU02.tr hU3
    have hs := hs.upd0 hU3
    have hr := hr9.cells bc1_len (by omega)
    have hLl := newL_len n l
    clear k1 k2 k3 hF hU1 hU2 hU02 hU3 hr9
    generalize newL n l = L at *
    obtain ⟨Ar, hAr⟩ : ∃ Ar, Ar = some (⟨gr9, 0, none⟩ : Addr) := ⟨_, rfl⟩
    obtain ⟨cr, hcr⟩ : ∃ cr, cr = n := ⟨_, rfl⟩
    obtain ⟨M, hM⟩ : ∃ M : List Bool, M = [] := ⟨_, rfl⟩
    obtain ⟨Bq, hBq⟩ : ∃ Bq : Option Addr, Bq = none := ⟨_, rfl⟩
    obtain ⟨cq, hcq⟩ : ∃ cq : Nat, cq = 0 := ⟨_, rfl⟩
    have hO : Oth wq (.pointer none) M := .inl ⟨rfl, hM⟩
    have hq : Arg wq Bq 1 bc1 M := .inl hM
    have hl4 : L.length ≤ 4096 := by omega
    have hm4 : M.length ≤ 4096 := by rw [hM]; simp
    rw [← hAr] at hr
    have e1 : Value.slice (some ⟨gr9, 0, none⟩) n n = Value.slice Ar L.length cr := by rw [hAr, hcr, hLl]
    have e2 : Value.slice none 0 0 = Value.slice Bq M.length cq := by rw [hBq, hcq, hM]; rfl
    have eH := Lib.hid (And.intro e1 e2)
    clear e1 e2 hAr hcr hM hBq hcq hLl
    go_upto_region 10 with fail
    rw [eH.out.1, eH.out.2]
    have hTq := hT.upd hU
    have km := withC L M g gb (.pointer none) wq (hs.upd0 (Upd.refl Nil wq)) (hO.upd0 (Upd.refl Nil wq)) hl4 hm4
    unfold MixR at km
    go_wp2_with fail
    refine km.mono ?_
    rintro e wa ⟨ga, gba, rfl, _, _, hsa, hUa⟩
    have hV1 := (Upd.refl Nil wq).tr hUa
    clear km
    have kr := rmix0 L M Ar Bq cr cq wa (hr.upd hV1) (hq.upd hV1) hl4 hm4
    unfold RMixR at kr
    go_wp2_with fail
    refine kr.mono ?_
    rintro e wb ⟨gr, rfl, _, hrb, hUb⟩
    have hV2 := hV1.tr hUb
    have kl := likeC (mixL (· || ·) L M) ga gba (some ⟨gr, 0, none⟩) L.length wb (hsa.upd0 hUb) (hrb.cells bc1_len (by omega)) (by rw [mixL_len]; exact hl4) (hTq.upd hV2)
    rw [mixL_len] at kl
    clear kr hsa hrb
    go_wp2_with fail
    refine kl.mono ?_
    rintro e wc ⟨rfl, hUc⟩
    have hV := hV2.tr hUc
    clear kl hV1 hV2 hUa hUb hUc
    obtain ⟨w1, rfl⟩ : ∃ x, x = wc := ⟨wc, rfl⟩
    have hVa := hV
    clear hV
    have km := bothC L M g gb (.pointer none) w1 (hs.upd0 hVa) (hO.upd0 hVa) hl4 hm4
    unfold MixR at km
    go_wp2_with fail
    refine km.mono ?_
    rintro e wa ⟨ga, gba, rfl, _, _, hsa, hUa⟩
    have hV1 := hVa.tr hUa
    clear km
    have kr := rmix1 L M Ar Bq cr cq wa (hr.upd hV1) (hq.upd hV1) hl4 hm4
    unfold RMixR at kr
    go_wp2_with fail
    refine kr.mono ?_
    rintro e wb ⟨gr, rfl, _, hrb, hUb⟩
    have hV2 := hV1.tr hUb
    have kl := likeC (mixL (· && ·) L M) ga gba (some ⟨gr, 0, none⟩) L.length wb (hsa.upd0 hUb) (hrb.cells bc1_len (by omega)) (by rw [mixL_len]; exact hl4) (hTq.upd hV2)
    rw [mixL_len] at kl
    clear kr hsa hrb
    go_wp2_with fail
    refine kl.mono ?_
    rintro e wc ⟨rfl, hUc⟩
    have hV := hV2.tr hUc
    clear kl hV1 hV2 hUa hUb hUc
    obtain ⟨w2, rfl⟩ : ∃ x, x = wc := ⟨wc, rfl⟩
    have hVb := hV
    clear hV hVa
    have km := butC L M g gb (.pointer none) w2 (hs.upd0 hVb) (hO.upd0 hVb) hl4 hm4
    unfold MixR at km
    go_wp2_with fail
    refine km.mono ?_
    rintro e wa ⟨ga, gba, rfl, _, _, hsa, hUa⟩
    have hV1 := hVb.tr hUa
    clear km
    have kr := rmix2 L M Ar Bq cr cq wa (hr.upd hV1) (hq.upd hV1) hl4 hm4
    unfold RMixR at kr
    go_wp2_with fail
    refine kr.mono ?_
    rintro e wb ⟨gr, rfl, _, hrb, hUb⟩
    have hV2 := hV1.tr hUb
    have kl := likeC (mixL (fun x y => x && !y) L M) ga gba (some ⟨gr, 0, none⟩) L.length wb (hsa.upd0 hUb) (hrb.cells bc1_len (by omega)) (by rw [mixL_len]; exact hl4) (hTq.upd hV2)
    rw [mixL_len] at kl
    clear kr hsa hrb
    go_wp2_with fail
    refine kl.mono ?_
    rintro e wc ⟨rfl, hUc⟩
    have hV := hV2.tr hUc
    clear kl hV1 hV2 hUa hUb hUc
    obtain ⟨w3, rfl⟩ : ∃ x, x = wc := ⟨wc, rfl⟩
    have hVc := hV
    clear hV hVb
    have kl := likeC L g gb Ar cr w3 (hs.upd0 hVc) (hr.upd hVc) hl4 (hTq.upd hVc)
    go_wp2_with fail
    refine kl.mono ?_
    rintro e w4 ⟨rfl, hUd⟩
    have hVd := hVc.tr hUd
    clear kl hVc hUd
    go_wp2_with fail
    go_ret
    exact ⟨rfl, hU.tr hVd⟩
  · obtain ⟨k, rfl⟩ := Int.eq_ofNat_of_zero_le (show 0 ≤ other by omega)
    have hk : k ≤ 4096 := by omega
    have k3 := fun w hB => newC k hk B cb m w hB (by omega)
    have k4 := fun w hB => rnewC k hk B cb m w hB (by omega)
    clear h5
    go_enter Tryd.func4, Tryd.ntmps4
    go_wp2_with fail
    refine hF.mono ?_
    rintro e w1 ⟨rfl, hU1⟩
    go_wp2_with fail
    refine (k1 _ (hA.upd hU1)).mono ?_
    rintro e w2 ⟨g, gb, rfl, _, _, hs, hU2⟩
    have hU02 := hU1.tr hU2
    go_wp2_with fail
    refine (k3 _ (hB.upd hU02)).mono ?_
    rintro e w3 ⟨go, gob, rfl, _, _, ho, hU3⟩
    have hU03 := hU02.tr hU3
    have hs3 := hs.upd0 hU3
    clear hs hU02 hU2 hU1 hU3
    go_wp2_with fail
    refine (k2 _ (hA.upd hU03)).mono ?_
    rintro e w4 ⟨gr9, rfl, _, hr9, hU4⟩
    have hU04 := hU03.tr hU4
    have hs4 := hs3.upd0 hU4
    have ho4 := ho.upd0 hU4
    clear hs3 ho hU03 hU4
    go_wp2_with fail
    refine (k4 _ (hB.upd hU04)).mono ?_
    rintro e wq ⟨gq9, rfl, _, hq9, hU5⟩
    have hU := hU04.tr hU5
    have hs := hs4.upd0 hU5
    have ho := ho4.upd0 hU5
    have hr := (hr9.upd0 hU5).cells bc1_len (by omega)
    have hq := hq9.cells bc1_len (by omega)
    have hLl := newL_len n l
    have hMl := newL_len k m
    clear k1 k2 k3 k4 hF hU04 hU5 hr9 hq9 hs4 ho4
    generalize newL n l = L at *
    generalize newL k m = M at *
    obtain ⟨Ar, hAr⟩ : ∃ Ar, Ar = some (⟨gr9, 0, none⟩ : Addr) := ⟨_, rfl⟩
    obtain ⟨cr, hcr⟩ : ∃ cr, cr = n := ⟨_, rfl⟩
    obtain ⟨Bq, hBq⟩ : ∃ Bq, Bq = some (⟨gq9, 0, none⟩ : Addr) := ⟨_, rfl⟩
    obtain ⟨cq, hcq⟩ : ∃ cq, cq = k := ⟨_, rfl⟩
    have hO : Oth wq (.pointer (some ⟨go, 0, none⟩)) M := .inr ⟨go, gob, rfl, ho⟩
    have hl4 : L.length ≤ 4096 := by omega
    have hm4 : M.length ≤ 4096 := by omega
    rw [← hAr] at hr
    rw [← hBq] at hq
    have e1 : Value.slice (some ⟨gr9, 0, none⟩) n n = Value.slice Ar L.length cr := by rw [hAr, hcr, hLl]
    have e2 : Value.slice (some ⟨gq9, 0, none⟩) k k = Value.slice Bq M.length cq := by rw [hBq, hcq, hMl]
    have eH := Lib.hid (And.intro e1 e2)
    clear e1 e2 hAr hcr hBq hcq hLl hMl
    go_upto_region 10 with fail
    rw [eH.out.1, eH.out.2]
    have hTq := hT.upd hU
    have km := withC L M g gb (.pointer (some ⟨go, 0, none⟩)) wq (hs.upd0 (Upd.refl Nil wq)) (hO.upd0 (Upd.refl Nil wq)) hl4 hm4
    unfold MixR at km
    go_wp2_with fail
    refine km.mono ?_
    rintro e wa ⟨ga, gba, rfl, _, _, hsa, hUa⟩
    have hV1 := (Upd.refl Nil wq).tr hUa
    clear km
    have kr := rmix0 L M Ar Bq cr cq wa (hr.upd hV1) (hq.upd hV1) hl4 hm4
    unfold RMixR at kr
    go_wp2_with fail
    refine kr.mono ?_
    rintro e wb ⟨gr, rfl, _, hrb, hUb⟩
    have hV2 := hV1.tr hUb
    have kl := likeC (mixL (· || ·) L M) ga gba (some ⟨gr, 0, none⟩) L.length wb (hsa.upd0 hUb) (hrb.cells bc1_len (by omega)) (by rw [mixL_len]; exact hl4) (hTq.upd hV2)
    rw [mixL_len] at kl
    clear kr hsa hrb
    go_wp2_with fail
    refine kl.mono ?_
    rintro e wc ⟨rfl, hUc⟩
    have hV := hV2.tr hUc
    clear kl hV1 hV2 hUa hUb hUc
    obtain ⟨w1, rfl⟩ : ∃ x, x = wc := ⟨wc, rfl⟩
    have hVa := hV
    clear hV
    have km := bothC L M g gb (.pointer (some ⟨go, 0, none⟩)) w1 (hs.upd0 hVa) (hO.upd0 hVa) hl4 hm4
    unfold MixR at km
    go_wp2_with fail
    refine km.mono ?_
    rintro e wa ⟨ga, gba, rfl, _, _, hsa, hUa⟩
    have hV1 := hVa.tr hUa
    clear km
    have kr := rmix1 L M Ar Bq cr cq wa (hr.upd hV1) (hq.upd hV1) hl4 hm4
    unfold RMixR at kr
    go_wp2_with fail
    refine kr.mono ?_
    rintro e wb ⟨gr, rfl, _, hrb, hUb⟩
    have hV2 := hV1.tr hUb
    have kl := likeC (mixL (· && ·) L M) ga gba (some ⟨gr, 0, none⟩) L.length wb (hsa.upd0 hUb) (hrb.cells bc1_len (by omega)) (by rw [mixL_len]; exact hl4) (hTq.upd hV2)
    rw [mixL_len] at kl
    clear kr hsa hrb
    go_wp2_with fail
    refine kl.mono ?_
    rintro e wc ⟨rfl, hUc⟩
    have hV := hV2.tr hUc
    clear kl hV1 hV2 hUa hUb hUc
    obtain ⟨w2, rfl⟩ : ∃ x, x = wc := ⟨wc, rfl⟩
    have hVb := hV
    clear hV hVa
    have km := butC L M g gb (.pointer (some ⟨go, 0, none⟩)) w2 (hs.upd0 hVb) (hO.upd0 hVb) hl4 hm4
    unfold MixR at km
    go_wp2_with fail
    refine km.mono ?_
    rintro e wa ⟨ga, gba, rfl, _, _, hsa, hUa⟩
    have hV1 := hVb.tr hUa
    clear km
    have kr := rmix2 L M Ar Bq cr cq wa (hr.upd hV1) (hq.upd hV1) hl4 hm4
    unfold RMixR at kr
    go_wp2_with fail
    refine kr.mono ?_
    rintro e wb ⟨gr, rfl, _, hrb, hUb⟩
    have hV2 := hV1.tr hUb
    have kl := likeC (mixL (fun x y => x && !y) L M) ga gba (some ⟨gr, 0, none⟩) L.length wb (hsa.upd0 hUb) (hrb.cells bc1_len (by omega)) (by rw [mixL_len]; exact hl4) (hTq.upd hV2)
    rw [mixL_len] at kl
    clear kr hsa hrb
    go_wp2_with fail
    refine kl.mono ?_
    rintro e wc ⟨rfl, hUc⟩
    have hV := hV2.tr hUc
    clear kl hV1 hV2 hUa hUb hUc
    obtain ⟨w3, rfl⟩ : ∃ x, x = wc := ⟨wc, rfl⟩
    have hVc := hV
    clear hV hVb
    have kl := likeC L g gb Ar cr w3 (hs.upd0 hVc) (hr.upd hVc) hl4 (hTq.upd hVc)
    go_wp2_with fail
    refine kl.mono ?_
    rintro e w4 ⟨rfl, hUd⟩
    have hVd := hVc.tr hUd
    clear kl hVc hUd
    have kl := likeC M go gob Bq cq w4 (ho.upd0 hVd) (hq.upd hVd) hm4 (hTq.upd hVd)
    go_wp2_with fail
    refine kl.mono ?_
    rintro e w5 ⟨rfl, hUe⟩
    go_wp2_with fail
    go_ret
    exact ⟨rfl, (hU.tr hVd).tr hUe⟩
end Go.Proofs.YtjkojhebgkgdaaaDoor.Bit
