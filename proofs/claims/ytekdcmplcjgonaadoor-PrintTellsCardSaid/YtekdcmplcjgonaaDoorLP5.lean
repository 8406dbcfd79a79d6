/- PrintTells' walk. -/
import Derived.Deep.CutBlock
import Derived.Deep.RegionHeld3
import Derived.Test.YtekdcmplcjgonaaDoorLP4
import Derived.Test.YtekdcmplcjgonaaDoorRpC
set_option linter.unusedVariables false
set_option linter.unusedSimpArgs false
namespace Go.Proofs.YtekdcmplcjgonaaDoor
open Go.RowKit

set_option maxRecDepth 100000 in
set_option maxHeartbeats 8000000 in
theorem printTells_walk (A : Option Addr) (n cap : Nat) (cs0 : List C) (B : Option Addr) (m d : Nat) (ls : List (List C × List (Bool × List C))) (s : ByteArray) (x : Int) (w : World) (hA : IsC w A n cap cs0) (hB : IsRs w B m d ls) (hs : s.size ≤ maxLen) (hx0 : 0 ≤ x) (hx1 : x ≤ 65535) (htab : Tab w) :
    Calls Tryd.prog 3 #[.slice A n cap, .slice B m d, .agg #[.string s, .int .u16 x]] w (RetV w (.bool true)) := by
  obtain ⟨u, hu⟩ : ∃ u : Nat, x % 1000 = (u : Int) := ⟨(x % 1000).toNat, by omega⟩
  have hu9 : u ≤ 999 := by omega
  have hu2 : x.tmod 1000 = (u : Int) := by rw [Int.tmod_eq_emod_of_nonneg hx0]; exact hu
  have Hu := Lib.hid hu
  have Hu2 := Lib.hid hu2
  have Htab := Lib.hid htab
  have HA := Lib.hid hA
  have HB := Lib.hid hB
  clear hu hu2 htab hA hB
  go_enter Tryd.func3, Tryd.ntmps3
  go_upto_region 1 with fail
  refine onW (fun W => Below w.heap.size w W ∧ W.heap[w.heap.size]? = some (.cells #[.string s, .int .u16 x] 26 (0, 0))) ⟨(Below.refl _ _).alloc (Nat.le_refl _) _, alloc_at rfl⟩ ?_
  rintro W ⟨hal, hxb⟩
  have hhead := head06_any W (Htab.out.below hal)
  have hmd := fun w' (hb : Below W.heap.size W w') => rMade_any A n cap cs0 w' ((HA.out.below hal).below hb) 60 (by omega) (by omega)
  have hcl := fun w' (hb : Below W.heap.size W w') => rClauses6_any B m d ls w' (IsG.below keepsRaw (IsG.below keepsRaw HB.out hal) hb)
  have htabW := Htab.out.below hal
  have hWz := hal.size
  have hgl := block_lt hxb
  have Hhead := Lib.hid hhead
  have Hmd := Lib.hid hmd
  have Hcl := Lib.hid hcl
  have HtabW := Lib.hid htabW
  have Hal := Lib.hid hal
  have Hxb := Lib.hid hxb
  clear hhead hmd hcl htabW hal hxb HA HB Htab
  go_wp2_with fail
  refine Hhead.out.mono ?_
  rintro e w1 ⟨rfl, hb1⟩
  have h1z := hb1.size
  have H1 := Lib.hid hb1
  clear hb1
  go_wp2_with fail
  refine (Hmd.out _ H1.out).mono ?_
  rintro e w2 ⟨T, A2, n2, c2, rfl, okT, szT, hiT, hb2, _⟩
  have hb2' := H1.out.trans (hb2.mono h1z)
  have h2z := hb2'.size
  have H2 := Lib.hid hb2'
  have HiT := Lib.hid hiT
  clear hb2 hb2' hiT
  go_wp2_with fail
  refine (Hcl.out _ H2.out).mono ?_
  rintro e w3 ⟨cs, A3, n3, c3, rfl, hcs, hok, hn3, hb3⟩
  have hb3' := H2.out.trans (hb3.mono h2z)
  have h3z := hb3'.size
  have hnc := hcs.len
  have hn3c := hcs.cap_le
  have HiT3 := Lib.hid (HiT.out.below hb3)
  have Hcs := Lib.hid hcs
  have Hok := Lib.hid hok
  have H3 := Lib.hid hb3'
  clear hb3 hb3' hcs hok HiT H1 H2 Hhead Hmd Hcl
  go_wp2
  go_loopw [8] (fun iv wr => ∃ k : Nat, iv = .int .i64 k ∧ k ≤ n3 ∧ Below w3.heap.size w3 wr) (fun iv _ => n3 - (intOf iv).toNat)
  case atStart => exact ⟨0, rfl, Nat.zero_le _, Below.refl _ _⟩
  case round =>
    obtain ⟨k, rfl, hk, hb⟩ := hrel
    have hwz := hb.size
    have hbW := H3.out.trans (hb.mono h3z)
    have HbW := Lib.hid hbW
    have hbWz := hbW.size
    by_cases hlt : k < n3
    · obtain ⟨y, hy⟩ := Hcs.out.get hlt
      obtain ⟨bq, off, A4, n4, cp4, B4, m4, d4, rfl, hbq, g0', g1', hi1, hi2⟩ := rc_at Hcs.out hy
      have g0 := (hb.cell (p := ⟨bq, off + k * 2, none⟩) hbq).trans g0'
      have g1 := (hb.cell (p := ⟨bq, off + k * 2 + 1, none⟩) hbq).trans g1'
      have hbq2 : bq < wr.heap.size := Nat.lt_of_lt_of_le hbq hwz
      have hoky := okCl6 (Hok.out y (List.mem_of_getElem? hy))
      have hml := hi2.len
      have hp := fun w' (hb' : Below wr.heap.size wr w') => pClause_any A4 n4 cp4 y.1 B4 m4 d4 y.2 w' ((hi1.below hb).below hb') hoky.1 hoky.2.1 ((hi2.below keepsRL hb).below keepsRL hb') hoky.2.2.1 (by have := hoky.2.2.2; omega) ((HtabW.out.below hbW).below hb')
      have hr := fun w' (hb' : Below wr.heap.size wr w') => rpClause_any A4 n4 cp4 y.1 B4 m4 d4 y.2 w' ((hi1.below hb).below hb') hoky.1 hoky.2.1 ((hi2.below keepsRL hb).below keepsRL hb') hoky.2.2.1 (by have := hoky.2.2.2; omega)
      unfold RetS at hp hr
      obtain ⟨X, hX⟩ : ∃ X : ByteArray, ⟨(prCl (y.1, y.2)).toArray⟩ = X := ⟨_, rfl⟩
      rw [hX] at hp hr
      have Hp := Lib.hid hp
      have Hr := Lib.hid hr
      have Hb := Lib.hid hb
      clear g0' g1' hbq hoky hml hp hr hX hy hi1 hi2 hb hbW HbW
      go_upto_region 7 with fail
      go_region_held3 (fun w' => w'.cell? ⟨bq, off + k * 2, none⟩ = some (.slice A4 n4 cp4) ∧ w'.cell? ⟨bq, off + k * 2 + 1, none⟩ = some (.slice B4 m4 d4))
        (go_keep)
        (first
          | (go_at_call 15; refine (Hr.out _ k1).mono ?_; rintro e v2 ⟨rfl, j2⟩; have k2 := k1.trans (j2.mono k1.size); have a2 := (k2.cell (p := ⟨bq, off + k * 2, none⟩) hbq2).trans g0; have b2 := (k2.cell (p := ⟨bq, off + k * 2 + 1, none⟩) hbq2).trans g1)
          | (go_at_call 14; refine (Hp.out _ ((Below.refl _ _).drew)).mono ?_; rintro e v1 ⟨rfl, j1⟩; have k1 := ((Below.refl wr.heap.size wr).drew).trans j1; have a1 := (k1.cell (p := ⟨bq, off + k * 2, none⟩) hbq2).trans g0; have b1 := (k1.cell (p := ⟨bq, off + k * 2 + 1, none⟩) hbq2).trans g1)
          | fail)
      all_goals
        have hfin := Hb.out.trans (k2.mono hwz)
        have Hfin := Lib.hid hfin
        clear k1 k2 j1 j2 a1 b1 a2 b2 hfin
        go_wp2
        go_roundw
        case rel => exact ⟨k + 1, by go_num, by omega, Hfin.out⟩
        case measure => simp [intOf]; omega
    · obtain rfl : k = n3 := by omega
      have hxw := (hbW.block w.heap.size hgl).trans Hxb.out
      have y0 := cells_of hxw 0
      have y1 := cells_of hxw 1
      have yl := block_lt hxw
      simp at y0 y1
      have hu := Hu.out
      have hu2 := Hu2.out
      have hnm := fun w' => rpName_any s hs w'
      have hiT := HiT3.out.below hb
      have hcs := IsG.below keepsRC Hcs.out hb
      have htabr := HtabW.out.below hbW
      have hokP : ∀ c ∈ cs, okCl c := fun c hc => okCl6 (Hok.out c hc)
      have ha1 := fun w' (hb' : Below wr.heap.size wr w') => pTerm_any A2 n2 c2 T w' (hiT.below hb') okT (by omega) (htabr.below hb')
      have ha2 := fun w' (hb' : Below wr.heap.size wr w') => rpTerm_any A2 n2 c2 T w' (hiT.below hb') okT (by omega)
      have ha3 := fun w' (hb' : Below wr.heap.size wr w') => pProgram_any A3 k c3 cs w' (IsG.below keepsRC hcs hb') hokP (by omega) (htabr.below hb')
      have ha4 := fun w' (hb' : Below wr.heap.size wr w') => rpProgram_any A3 k c3 cs w' (IsG.below keepsRC hcs hb') hokP (by omega)
      have ha7 := fun w' => pVarName_any u hu9 w'
      have ha8 := fun w' => rpVarName_any u hu9 w'
      unfold RetS at ha1 ha2 ha3 ha4 ha8
      obtain ⟨S1, hS1⟩ : ∃ X : ByteArray, ⟨(prT T).toArray⟩ = X := ⟨_, rfl⟩
      obtain ⟨S2, hS2⟩ : ∃ X : ByteArray, ⟨(prPr cs).toArray⟩ = X := ⟨_, rfl⟩
      obtain ⟨S4, hS4⟩ : ∃ X : ByteArray, ⟨(varName u).toArray⟩ = X := ⟨_, rfl⟩
      rw [hS1] at ha1 ha2
      rw [hS2] at ha3 ha4
      rw [hS4] at ha7 ha8
      have Hnm := Lib.hid hnm
      have Ha1 := Lib.hid ha1
      have Ha2 := Lib.hid ha2
      have Ha3 := Lib.hid ha3
      have Ha4 := Lib.hid ha4
      have Ha7 := Lib.hid ha7
      have Ha8 := Lib.hid ha8
      have HbWw := Lib.hid (Hal.out.trans (hbW.mono hWz))
      have hwwr : w.heap.size ≤ wr.heap.size := by omega
      clear hxw hnm hiT hcs htabr hokP ha1 ha2 ha3 ha4 ha7 ha8 hS1 hS2 hS4 hb hbW HbW HiT3 Hcs Hok H3 Hal Hxb HtabW Hu2 okT szT hlt hnc
      go_upto_region 9 with fail
      go_region_held3 (fun w' => w'.cell? ⟨w.heap.size, 0, none⟩ = some (.string s) ∧ w'.cell? ⟨w.heap.size, 1, none⟩ = some (.int .u16 x))
        (go_keep)
        (first
          | (go_at_call 16; refine (Hnm.out _).mono ?_; rintro e v1 ⟨nm, rfl, hnm, j1⟩; have k1 := ((Below.refl wr.heap.size wr).drew).trans j1; have a1 := (k1.cell (p := ⟨w.heap.size, 0, none⟩) yl).trans y0; have b1 := (k1.cell (p := ⟨w.heap.size, 1, none⟩) yl).trans y1)
          | fail)
      all_goals
        have hn12 := okName_le hnm
        have ha5 := fun w' => pQuote_any nm (by omega) w'
        have ha6 := fun w' => rpQuote_any nm (by omega) (okName_ge hnm) w'
        unfold RetS at ha6
        obtain ⟨S3, hS3⟩ : ∃ X : ByteArray, ⟨(quoteN nm.data.toList).toArray⟩ = X := ⟨_, rfl⟩
        rw [hS3] at ha5 ha6
        have Ha5 := Lib.hid ha5
        have Ha6 := Lib.hid ha6
        have K1 := Lib.hid k1
        have hz1 := k1.size
        clear hS3 ha5 ha6 a1 b1 y0 y1 k1 j1 hnm hu hu2
        go_wp2_with fail
        refine (Ha1.out _ K1.out).mono ?_
        rintro e v2 ⟨rfl, j2⟩
        have K2 := Lib.hid (K1.out.trans (j2.mono hz1))
        have hz2 := K2.out.size
        clear j2
        go_wp2_with fail
        refine (Ha2.out _ K2.out).mono ?_
        rintro e v3 ⟨rfl, j3⟩
        have K3 := Lib.hid (K2.out.trans (j3.mono hz2))
        have hz3 := K3.out.size
        clear j3
        go_wp2_with fail
        refine (Ha3.out _ K3.out).mono ?_
        rintro e v4 ⟨rfl, j4⟩
        have K4 := Lib.hid (K3.out.trans (j4.mono hz3))
        have hz4 := K4.out.size
        clear j4
        go_wp2_with fail
        refine (Ha4.out _ K4.out).mono ?_
        rintro e v5 ⟨rfl, j5⟩
        have K5 := Lib.hid (K4.out.trans (j5.mono hz4))
        have hz5 := K5.out.size
        clear j5
        go_wp2_with fail
        refine (Ha5.out _).mono ?_
        rintro e v6 ⟨rfl, j6⟩
        have K6 := Lib.hid (K5.out.trans (j6.mono hz5))
        have hz6 := K6.out.size
        clear j6
        go_wp2_with fail
        refine (Ha6.out _).mono ?_
        rintro e v7 ⟨rfl, j7⟩
        have K7 := Lib.hid (K6.out.trans (j7.mono hz6))
        have hz7 := K7.out.size
        clear j7
        go_wp2_with fail
        rw [Hu.out]
        refine (Ha7.out _).mono ?_
        rintro e v8 ⟨rfl, j8⟩
        have K8 := Lib.hid (K7.out.trans (j8.mono hz7))
        have hz8 := K8.out.size
        clear j8
        go_wp2_with fail
        rw [Hu.out]
        refine (Ha8.out _).mono ?_
        rintro e v9 ⟨rfl, j9⟩
        have hfin := HbWw.out.trans ((K8.out.trans (j9.mono hz8)).mono hwwr)
        clear j9
        go_wp2
        go_ret
        exact ⟨rfl, hfin⟩
end Go.Proofs.YtekdcmplcjgonaaDoor
