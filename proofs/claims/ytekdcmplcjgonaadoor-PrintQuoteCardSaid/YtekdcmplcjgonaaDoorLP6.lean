/- PrintQuote's walk. -/
import Derived.Deep.CutBlock
import Derived.Deep.RegionHeld3
import Derived.Test.YtekdcmplcjgonaaDoorLP4
import Derived.Test.YtekdcmplcjgonaaDoorRpC
import Derived.Test.YtekdcmplcjgonaaDoorLxQ
set_option linter.unusedVariables false
set_option linter.unusedSimpArgs false
namespace Go.Proofs.YtekdcmplcjgonaaDoor
open Go.RowKit

set_option maxRecDepth 100000 in
set_option maxHeartbeats 8000000 in
theorem printQuote_walk (s : ByteArray) (x : Int) (y : Int) (w : World) (hs : s.size ≤ maxLen) (hx0 : 0 ≤ x) (hx1 : x ≤ 65535) (hwf : (Lit.int .u16 y).wf = true) (htab : Tab w) :
    Calls Tryd.prog 7 #[.agg #[.string s, .int .u16 x], .int .u16 y] w (RetV w (.bool true)) := by
  have hy01 : 0 ≤ y ∧ y ≤ 65535 := by
    have e1 : IntKind.u16.min = 0 := by decide
    have e2 : IntKind.u16.max = 65535 := by decide
    simp [Lit.wf, e1, e2] at hwf
    omega
  obtain ⟨hy0, hy1⟩ := hy01
  clear hwf
  obtain ⟨u, hu⟩ : ∃ u : Nat, x % 1000 = (u : Int) := ⟨(x % 1000).toNat, by omega⟩
  have hu9 : u ≤ 999 := by omega
  have hu2 : x.tmod 1000 = (u : Int) := by rw [Int.tmod_eq_emod_of_nonneg hx0]; exact hu
  obtain ⟨t, ht⟩ : ∃ u : Nat, y % 1000 = (u : Int) := ⟨(y % 1000).toNat, by omega⟩
  have ht9 : t ≤ 999 := by omega
  have ht2 : y.tmod 1000 = (t : Int) := by rw [Int.tmod_eq_emod_of_nonneg hy0]; exact ht
  have Hu := Lib.hid hu
  have Hu2 := Lib.hid hu2
  have Ht := Lib.hid ht
  have Ht2 := Lib.hid ht2
  have Htab := Lib.hid htab
  clear hu hu2 htab ht ht2
  go_enter Tryd.func7, Tryd.ntmps7
  go_upto_region 1 with fail
  refine onW (fun W => Below w.heap.size w W ∧ W.heap[w.heap.size]? = some (.cells #[.string s, .int .u16 x] 26 (0, 0))) ⟨(Below.refl _ _).alloc (Nat.le_refl _) _, alloc_at rfl⟩ ?_
  rintro W ⟨hal, hxb⟩
  have hhead := head06_any W (Htab.out.below hal)
  have hWz := hal.size
  have hgl := block_lt hxb
  have Hhead := Lib.hid hhead
  have Hal := Lib.hid hal
  have Hxb := Lib.hid hxb
  clear hhead hal hxb Htab
  go_wp2_with fail
  refine Hhead.out.mono ?_
  rintro e w1 ⟨rfl, hb1⟩
  have h1z := hb1.size
  have hx1' := (hb1.block w.heap.size hgl).trans Hxb.out
  have y0 := cells_of hx1' 0
  have y0l := block_lt hx1'
  simp at y0
  have hnm := fun w' => rpName_any s hs w'
  have Hnm := Lib.hid hnm
  have H1 := Lib.hid hb1
  clear hb1 hx1' hnm Hhead
  go_wp2_with fail
  refine (Hnm.out _).mono ?_
  rintro e w2 ⟨nm, rfl, hnm, hb2⟩
  have K2 := Lib.hid (H1.out.trans (hb2.mono (by omega)))
  have hz2 := hb2.size
  obtain ⟨lq, lqp, lql⟩ := lex_quote hnm
  have hn12 := okName_le hnm
  have ha3 := fun w' => pQuote_any nm (by omega) w'
  obtain ⟨S3, hS3⟩ : ∃ X : ByteArray, ⟨(quoteN nm.data.toList).toArray⟩ = X := ⟨_, rfl⟩
  rw [hS3] at ha3
  have hS3' : (⟨(quoteN (bytesOf nm)).toArray⟩ : ByteArray) = S3 := hS3
  have hs3 : S3.size ≤ 20000 := by rw [← hS3']; show (quoteN (bytesOf nm)).toArray.size ≤ _; rw [List.size_toArray]; omega
  rw [hS3'] at lq lqp
  have hx3 := fun w' => lxLex_any S3 hs3 0 lqp _ lq w'
  obtain ⟨lv, lvp⟩ := lex_var u
  have hvl : (varName u).length ≤ 20 := by
    unfold varName
    split
    · simp
    · rename_i h26
      have h10 : u / 26 < 100 := by omega
      have : (Lib.decDigits (u / 26)).length ≤ 2 := by
        by_cases h1 : u / 26 < 10
        · rw [Lib.decDigits, dif_pos h1]; simp
        · rw [Lib.decDigits, dif_neg h1, Lib.decDigits, dif_pos (by omega)]; simp
      rw [List.length_cons]; omega
  have hq : ((⟨(varName u).toArray⟩ : ByteArray).toList == (⟨(varName t).toArray⟩ : ByteArray).toList) = ((u : Int) == (t : Int)) := by
    rw [bs_ne, Bool.eq_iff_iff, decide_eq_true_eq, beq_iff_eq]
    exact ⟨fun h => by rw [varName_inj hu9 ht9 h], fun h => by rw [Int.ofNat.inj h]⟩
  have ha7 := fun w' => pVarName_any u hu9 w'
  have ha8 := fun w' => pVarName_any t ht9 w'
  obtain ⟨S4, hS4⟩ : ∃ X : ByteArray, ⟨(varName u).toArray⟩ = X := ⟨_, rfl⟩
  obtain ⟨S5, hS5⟩ : ∃ X : ByteArray, ⟨(varName t).toArray⟩ = X := ⟨_, rfl⟩
  have hs4 : S4.size ≤ 20000 := by rw [← hS4]; show (varName u).toArray.size ≤ _; rw [List.size_toArray]; omega
  rw [hS4] at lv lvp hq ha7
  rw [hS5] at hq ha8
  have hx4 := fun w' => lxLex_any S4 hs4 0 lvp _ lv w'
  have Ha3 := Lib.hid ha3
  have Hx3 := Lib.hid hx3
  have Ha7 := Lib.hid ha7
  have Ha8 := Lib.hid ha8
  have Hx4 := Lib.hid hx4
  clear hb2 y0 Hnm hnm lq lqp lql ha3 hS3 hS3' hx3 lv lvp hvl ha7 ha8 hS4 hS5 hx4
  go_wp2_with fail
  refine (Ha3.out _).mono ?_
  rintro e w3 ⟨rfl, hb3⟩
  have K3 := Lib.hid (K2.out.trans (hb3.mono (by omega)))
  have hz3 := hb3.size
  clear hb3
  go_wp2_with fail
  refine (Hx3.out _).mono ?_
  rintro e w4 ⟨A4, n4, c4, rfl, hL, hb4⟩
  obtain rfl : n4 = 1 := hL.len.symm
  obtain ⟨bL, oL, vL, rfl, hbL, _, hvL, hcL⟩ := hL.at_ (i := 0) rfl
  obtain rfl := hvL
  have l0 := hcL 0 _ rfl
  have l1 := hcL 1 _ rfl
  have hcap4 := hL.cap_le
  have K4 := K3.out.trans (hb4.mono (by omega))
  have hz4 := hb4.size
  have hxb4 := (K4.block w.heap.size hgl).trans Hxb.out
  have y1 := cells_of hxb4 1
  have y1l := block_lt hxb4
  simp at y1
  simp only [Nat.zero_mul, Nat.add_zero] at l0 l1
  have HK4 := Lib.hid K4
  have Hl := Lib.hid (And.intro l0 l1)
  clear hb4 hcL hL K4 hxb4 l0 l1 Hxb Ha3 Hx3 hs3
  go_upto_region 5 with fail
  rw [Hu.out, Ht.out]
  go_wp2_with fail
  refine (Ha7.out _).mono ?_
  rintro e w5 ⟨rfl, hb5⟩
  have hz5 := hb5.size
  go_wp2_with fail
  refine (Hx4.out _).mono ?_
  rintro e w6 ⟨A6, n6, c6, rfl, hM, hb6⟩
  obtain rfl : n6 = 1 := hM.len.symm
  obtain ⟨bM, oM, vM, rfl, hbM, _, hvM, hcM⟩ := hM.at_ (i := 0) rfl
  obtain rfl := hvM
  have m0 := hcM 0 _ rfl
  have m1 := hcM 1 _ rfl
  have hcap6 := hM.cap_le
  have hz6 := hb6.size
  have hb46 := hb5.trans (hb6.mono hz5)
  have HK6 := Lib.hid (HK4.out.trans (hb46.mono HK4.out.size))
  have l0 := (hb46.cell (p := ⟨bL, oL, none⟩) hbL).trans Hl.out.1
  have l1 := (hb46.cell (p := ⟨bL, oL + 1, none⟩) hbL).trans Hl.out.2
  have hbL6 : bL < w6.heap.size := by omega
  simp only [Nat.zero_mul, Nat.add_zero] at m0 m1
  have HKz := HK6.out.size
  have HA7 := Lib.hid (fun w' (_ : Below w6.heap.size w6 w') => Ha7.out w')
  have HA8 := Lib.hid (fun w' (_ : Below w6.heap.size w6 w') => Ha8.out w')
  clear hb5 hb6 hb46 hcM hM Hx4 Hl HK4 K3 K2 H1 Ha7 Ha8 Hu Hu2 Ht Ht2 hs4 hu9 ht9 hn12 y1
  go_upto_region 8 with fail
  go_region_held3 (fun w' => w'.cell? ⟨bM, oM, none⟩ = some (.int .i64 2) ∧ w'.cell? ⟨bM, oM + 1, none⟩ = some (.string S4))
    (go_keep)
    (first
      | (go_at_call 23; refine (HA8.out _ k2).mono ?_; rintro e v3 ⟨rfl, j3⟩; have k3 := k2.trans (j3.mono k2.size); have a3 := (k3.cell (p := ⟨bM, oM, none⟩) hbM).trans m0; have b3 := (k3.cell (p := ⟨bM, oM + 1, none⟩) hbM).trans m1)
      | (go_at_call 23; refine (HA7.out _ k1).mono ?_; rintro e v2 ⟨rfl, j2⟩; have k2 := k1.trans (j2.mono k1.size); have a2 := (k2.cell (p := ⟨bM, oM, none⟩) hbM).trans m0; have b2 := (k2.cell (p := ⟨bM, oM + 1, none⟩) hbM).trans m1)
      | (go_at_call 23; refine (HA7.out _ ((Below.refl _ _).drew)).mono ?_; rintro e v1 ⟨rfl, j1⟩; have k1 := ((Below.refl w6.heap.size w6).drew).trans j1; have a1 := (k1.cell (p := ⟨bM, oM, none⟩) hbM).trans m0; have b1 := (k1.cell (p := ⟨bM, oM + 1, none⟩) hbM).trans m1)
      | fail)
  all_goals
    have hfin := Hal.out.trans ((HK6.out.trans (k3.mono HKz)).mono hWz)
    clear k1 k2 k3 j1 j2 j3
    try go_wp2
    go_ret
    exact ⟨rfl, hfin⟩
end Go.Proofs.YtekdcmplcjgonaaDoor
