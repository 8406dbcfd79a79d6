/- The walk of the law HeapRoom. -/
import Derived.WalkMore
import Derived.Test.YtlndjooddkjnoaaLH0
set_option linter.unusedVariables false
set_option linter.unusedSimpArgs false
namespace Go.Proofs.Ytlndjooddkjnoaa
open Go.RowKit
set_option maxRecDepth 100000 in
set_option maxHeartbeats 2000000 in
theorem heapRoom_walk (A : Option Addr) (n c : Nat) (l : List C) (B : Option Addr) (m d : Nat) (tr : List Int) (r : Int) (D : Option Addr) (p e : Nat) (at_ : List Int) (At : Option Addr) (k kc : Nat) (t : List C) (w : World) (h : IsC w A n c l) (hT : IsI w B m d tr) (hr : i64 r) (hD : IsI w D p e at_) (ht : IsC w At k kc t) :
    Calls Try.prog 5 #[.agg #[.slice A n c, .slice B m d, .int .i64 r], .slice D p e, .slice At k kc] w (RetV w (.bool true)) := by
  cases hmay : mayH l tr r
  · go_enter Try.func5, Try.ntmps5
    go_upto_region 1 with fail
    refine wp_world' (Φ := fun X => Below w.heap.size w X ∧ HB X w.heap.size l tr r) ⟨bas _ _, HB.box h hT⟩ ?_
    rintro X ⟨hbX, hB⟩
    obtain ⟨gh, hgh⟩ : ∃ gh, gh = w.heap.size := ⟨_, rfl⟩
    rw [← hgh] at hB ⊢
    clear hgh
    go_wp2_with fail
    refine (head8_any _).mono ?_
    rintro e w1 ⟨rfl, hbn⟩
    replace hB := hB.below hbn
    replace hbX := hbX.trans (hbn.mono hbX.size)
    clear hbn
    obtain ⟨A1, c1, B1, d1, ⟨hC1, hN1⟩, hY⟩ := hB.open
    have HY := Lib.hid hY
    have hm := may8 (r := r) hC1 hN1
    obtain ⟨y0, y1, y2, yl⟩ := hY _ (Below.refl _ _)
    have HC1 := Lib.hid hC1
    have HbX := Lib.hid hbX
    clear hY hC1 hN1 hB hbX
    rw [hmay] at hm
    go_wp2_with fail
    refine hm.mono ?_
    rintro e2 w2 ⟨rfl, hbn⟩
    go_wp2
    refine bodyPost_ret (v := .bool true) (by simp [results, Try.results5, go_sem, *]) rfl ?_
    exact ⟨rfl, HbX.out.trans (hbn.mono HbX.out.size)⟩
  obtain ⟨hl120, _, hok⟩ := mayH_iff hmay
  by_cases hk : 210 < k
  · have hkz : (210 : Int) < (k : Int) := by omega
    go_enter Try.func5, Try.ntmps5
    go_upto_region 1 with fail
    refine wp_world' (Φ := fun X => Below w.heap.size w X ∧ HB X w.heap.size l tr r) ⟨bas _ _, HB.box h hT⟩ ?_
    rintro X ⟨hbX, hB⟩
    obtain ⟨gh, hgh⟩ : ∃ gh, gh = w.heap.size := ⟨_, rfl⟩
    rw [← hgh] at hB ⊢
    clear hgh
    go_wp2_with fail
    refine (head8_any _).mono ?_
    rintro e w1 ⟨rfl, hbn⟩
    replace hB := hB.below hbn
    replace hbX := hbX.trans (hbn.mono hbX.size)
    clear hbn
    obtain ⟨A1, c1, B1, d1, ⟨hC1, hN1⟩, hY⟩ := hB.open
    have HY := Lib.hid hY
    have hm := may8 (r := r) hC1 hN1
    obtain ⟨y0, y1, y2, yl⟩ := hY _ (Below.refl _ _)
    have HC1 := Lib.hid hC1
    have HbX := Lib.hid hbX
    clear hY hC1 hN1 hB hbX
    rw [hmay] at hm
    go_wp2_with fail
    refine hm.mono ?_
    rintro e2 w2 ⟨rfl, hbn⟩
    go_wp2
    refine bodyPost_ret (v := .bool true) (by simp [results, Try.results5, go_sem, *]) rfl ?_
    exact ⟨rfl, HbX.out.trans (hbn.mono HbX.out.size)⟩
  have hkz : ¬ (210 : Int) < (k : Int) := by omega
  cases hrt : rightB t
  · have hri := fun wz (hb : Below w.heap.size w wz) => rRight_any At k kc t wz (ht.below hb) (by omega)
    rw [hrt] at hri
    have Hri := Lib.hid hri
    clear hri
    go_enter Try.func5, Try.ntmps5
    go_upto_region 1 with fail
    refine wp_world' (Φ := fun X => Below w.heap.size w X ∧ HB X w.heap.size l tr r) ⟨bas _ _, HB.box h hT⟩ ?_
    rintro X ⟨hbX, hB⟩
    obtain ⟨gh, hgh⟩ : ∃ gh, gh = w.heap.size := ⟨_, rfl⟩
    rw [← hgh] at hB ⊢
    clear hgh
    go_wp2_with fail
    refine (head8_any _).mono ?_
    rintro e w1 ⟨rfl, hbn⟩
    replace hB := hB.below hbn
    replace hbX := hbX.trans (hbn.mono hbX.size)
    clear hbn
    obtain ⟨A1, c1, B1, d1, ⟨hC1, hN1⟩, hY⟩ := hB.open
    have HY := Lib.hid hY
    have hm := may8 (r := r) hC1 hN1
    obtain ⟨y0, y1, y2, yl⟩ := hY _ (Below.refl _ _)
    have HC1 := Lib.hid hC1
    have HbX := Lib.hid hbX
    clear hY hC1 hN1 hB hbX
    rw [hmay] at hm
    go_wp2_with fail
    refine hm.mono ?_
    rintro e2 w2 ⟨rfl, hbn⟩
    have hb2 := HbX.out.trans (hbn.mono HbX.out.size)
    clear hbn
    go_wp2_with fail
    refine (Hri.out _ hb2).mono ?_
    rintro e3 w3 ⟨rfl, hbn⟩
    go_wp2
    refine bodyPost_ret (v := .bool true) (by simp [results, Try.results5, go_sem, *]) rfl ?_
    exact ⟨rfl, hb2.trans (hbn.mono hb2.size)⟩
  have hri := fun wz (hb : Below w.heap.size w wz) => rRight_any At k kc t wz (ht.below hb) (by omega)
  rw [hrt] at hri
  have Hri := Lib.hid hri
  obtain ⟨T, hTok, rfl, hTs⟩ := right_tree hrt
  have Hht := Lib.hid ht
  have HD := Lib.hid hD
  clear hri
  go_enter Try.func5, Try.ntmps5
  go_upto_region 1 with fail
  refine wp_world' (Φ := fun X => Below w.heap.size w X ∧ HB X w.heap.size l tr r) ⟨bas _ _, HB.box h hT⟩ ?_
  rintro X ⟨hbX, hB⟩
  obtain ⟨gh, hgh⟩ : ∃ gh, gh = w.heap.size := ⟨_, rfl⟩
  rw [← hgh] at hB ⊢
  clear hgh
  go_wp2_with fail
  refine (head8_any _).mono ?_
  rintro e w1 ⟨rfl, hbn⟩
  replace hB := hB.below hbn
  replace hbX := hbX.trans (hbn.mono hbX.size)
  clear hbn
  obtain ⟨A1, c1, B1, d1, ⟨hC1, hN1⟩, hY⟩ := hB.open
  have HY := Lib.hid hY
  have hm := may8 (r := r) hC1 hN1
  obtain ⟨y0, y1, y2, yl⟩ := hY _ (Below.refl _ _)
  have HC1 := Lib.hid hC1
  have HbX := Lib.hid hbX
  clear hY hC1 hN1 hB hbX
  rw [hmay] at hm
  go_wp2_with fail
  refine hm.mono ?_
  rintro e2 w2 ⟨rfl, hbn⟩
  have hb2 := HbX.out.trans (hbn.mono HbX.out.size)
  have hb12 := hbn
  clear hbn
  go_wp2_with fail
  refine (Hri.out _ hb2).mono ?_
  rintro e3 w3 ⟨rfl, hbn⟩
  replace hb12 := hb12.trans (hbn.mono hb12.size)
  replace hb2 := hb2.trans (hbn.mono hb2.size)
  clear hbn y0 y1 y2 yl
  obtain ⟨y0, y1, y2, yl⟩ := HY.out _ hb12
  go_wp2_with fail
  refine (fits_any A1 B1 D l.length c1 tr.length d1 p e r at_ _ (by omega) (HD.out.below hb2)).mono ?_
  rintro e4 w4 ⟨D2, p2, f2, rfl, hD2, hbn⟩
  replace hb12 := hb12.trans (hbn.mono hb12.size)
  replace hb2 := hb2.trans (hbn.mono hb2.size)
  clear hbn y0 y1 y2 yl
  have hp2 := hD2.len
  have hp20 := fitsF_len l.length at_
  have hF : ∀ i y, (fitsF l.length at_)[i]? = some y → atA (fitsF l.length at_) i = y := fun i y hy => by simp [atA, hy]
  have hFn : ∀ i, p2 ≤ i → atA (fitsF l.length at_) i = -1 := fun i hi => by simp [atA, List.getElem?_eq_none (show (fitsF l.length at_).length ≤ i by omega)]
  have hlen := putA_many l T (fitsF l.length at_)
  have hkl := ht.len
  rw [flat_size] at hkl
  have hput := hPut_any T A1 B1 D2 At l.length c1 tr.length d1 p2 f2 k kc r l (fitsF l.length at_) w4 (HC1.out.below hb12) (ht.below hb2) hD2 hTok hTs (by omega) (by omega)
  have Hput := Lib.hid hput
  have HF := Lib.hid hF
  have HFn := Lib.hid hFn
  have hlm : manyF T (fitsF l.length at_) ≤ 2 * T.size := by
    have := putA_len (T := T) l (fitsF l.length at_)
    omega
  have HLen := Lib.hid hlen
  have HD2 := Lib.hid hD2
  have htw := ht.below hb2
  clear hput hF hFn hlen hp2 hD2 HD hD Hht
  generalize fitsF l.length at_ = F at *
  go_upto_region 5 with fail
  go_cut [9] from 33 to 33 (fun v9 wx => v9 = .int .i64 1 ∧ wx = w4)
  case first =>
    go_wp2
    go_meet
    exact ⟨rfl, rfl⟩
  obtain ⟨rfl, hwc⟩ := hcut
  rw [hwc]
  clear hwc
  refine ‹∀ (a : Act) (w : World), Code.wp _ _ _ a w → _› _ _ ?_
  refine wp_seq_k fun K7 hK7 => ?_
  go_cut [9, 10] from 33 to 78 (fun v9 v10 wx => v9 = .int .i64 (manyF T F : Nat) ∧ wx = w4)
  case first =>
    clear Hput HLen HY hm
    cases T with
    | f s us =>
      obtain ⟨b, off, rfl, hbb, hwf, h0, h1, h2⟩ := htw.at_ (k := 0) (c := ⟨3, s, us.length⟩) rfl
      simp only [Nat.zero_mul, Nat.add_zero] at h0 h1 h2
      have hcap := htw.sl.hcap
      have hmax := htw.sl.hmax
      unfold maxLen at hmax
      have hk0 : 0 < k := by have := (Tm.f s us).size_pos; omega
      have hcnt := hs_cnt (.f s us)
      have hcl := cntF_le (Tm.f s us).flat
      rw [flat_size] at hcl
      have hmany : manyF (.f s us) F = (Tm.f s us).hs := rfl
      have hpos := hs_pos (u := Tm.f s us) rfl
      have Hcnt : Hid (manyF (.f s us) F = (k - 1) + cntF (Tm.f s us).flat) := Lib.hid (by omega)
      have hw1 : IntKind.i64.wrap ((k : Int) - 1) = ((k - 1 : Nat) : Int) := by rw [IntWalk.i64_in _ (by omega)]; omega
      have htl := htw.len
      have Htl := Lib.hid htl
      have Htw := Lib.hid htw
      clear h1 h2 hcnt hcl hmany hpos htl ht htw h hT
      go_wp2
      clear h0
      go_loopw [9, 10] (fun v9 v10 wr => ∃ i q : Nat, i ≤ k ∧ v10 = .int .i64 i ∧ v9 = .int .i64 q ∧ q ≤ 1000 + i ∧ Hid (q + cntF ((Tm.f s us).flat.drop i) = (k - 1) + cntF (Tm.f s us).flat) ∧ wr = w4) (fun _ v10 _ => k - (intOf v10).toNat)
      case atStart => exact ⟨0, k - 1, Nat.zero_le _, rfl, rfl, by omega, Lib.hid (by simp), by first | rfl | trivial⟩
      case round =>
        obtain ⟨i, q, hi, rfl, rfl, hq, hres, hwr⟩ := hrel
        try subst hwr
        by_cases hlt : i < k
        · obtain ⟨ci, hci⟩ := Htw.out.get hlt
          obtain ⟨b', off', he', hbb', hwf', g0, g1, g2⟩ := Htw.out.at_ hci
          injection he' with he'
          injection he' with e1 e2 e3
          subst e1 e2
          have hd := drop_get hci
          have hr9 := hres.out
          rw [hd, cntF] at hr9
          have Hr9 := Lib.hid hr9
          have hiz : (i : Int) < (k : Int) := by omega
          clear hr9 hd hci g1 g2 hres
          by_cases k3 : ci.kind = 3
          · have kb : (ci.kind == 3) = true := by simp [k3]
            go_wp2
            go_roundw
            case rel => exact ⟨i + 1, q + 1, by omega, by go_num, by go_num, by omega, Lib.hid (by have := Hr9.out; rw [if_pos k3] at this; omega), trivial⟩
            case measure => simp [intOf]; omega
          · have kb : (ci.kind == 3) = false := by simp [k3]
            go_wp2
            go_roundw
            case rel => exact ⟨i + 1, q, by omega, by go_num, rfl, by omega, Lib.hid (by have := Hr9.out; rw [if_neg k3] at this; omega), trivial⟩
            case measure => simp [intOf]; omega
        · have hr9 := hres.out
          rw [List.drop_eq_nil_of_le (by have := Htl.out; omega), cntF, Nat.add_zero] at hr9
          have Hr9 := Lib.hid hr9
          clear hr9 hres
          go_wp2
          go_meet
          exact ⟨by rw [Hcnt.out, ← Hr9.out], by first | rfl | trivial⟩
    | i x =>
      obtain ⟨b, off, rfl, hbb, hwf, h0, h1, h2⟩ := htw.at_ (k := 0) (c := ⟨2, ⟨#[]⟩, x⟩) rfl
      simp only [Nat.zero_mul, Nat.add_zero] at h0 h1 h2
      have hcap := htw.sl.hcap
      have hmax := htw.sl.hmax
      unfold maxLen at hmax
      have hk0 : 0 < k := by have := (Tm.i x).size_pos; omega
      go_wp2
      go_meet
      exact ⟨rfl, by first | rfl | trivial⟩
    | v x =>
      have hx0 : 0 ≤ x := by simp [Tm.ok] at hTok; omega
      obtain ⟨v, rfl⟩ : ∃ v : Nat, x = v := ⟨x.toNat, by omega⟩
      obtain ⟨b, off, rfl, hbb, hwf, h0, h1, h2⟩ := htw.at_ (k := 0) (c := ⟨1, ⟨#[]⟩, (v : Int)⟩) rfl
      simp only [Nat.zero_mul, Nat.add_zero] at h0 h1 h2
      have hcap := htw.sl.hcap
      have hmax := htw.sl.hmax
      unfold maxLen at hmax
      have hk0 : 0 < k := by have := (Tm.v (v : Int)).size_pos; omega
      have hmany : manyF (.v (v : Int)) F = if atA F v < 0 then 1 else 0 := by simp [manyF]
      by_cases hv : v < p2
      · obtain ⟨y, hy⟩ := HD2.out.get hv
        obtain ⟨b2, off2, rfl, hbb2, hwf2, q0⟩ := HD2.out.at_ hy
        have hay := HF.out v y hy
        have hcap2 := HD2.out.sl.hcap
        have hmax2 := HD2.out.sl.hmax
        unfold maxLen at hmax2
        have hvz : (v : Int) < (p2 : Int) := by omega
        by_cases hneg : y < 0
        · have hyz : decide (0 ≤ y) = false := by simp; omega
          have hy0 : ¬ 0 ≤ y := by omega
          have Hm : Hid (manyF (.v (v : Int)) F = 1) := Lib.hid (by rw [hmany, hay, if_pos hneg])
          clear hmany hay hneg
          go_wp2
          go_meet
          exact ⟨by rw [Hm.out]; rfl, by first | rfl | trivial⟩
        · have hyz : decide (0 ≤ y) = true := by simp; omega
          have hy0 : 0 ≤ y := by omega
          have Hm : Hid (manyF (.v (v : Int)) F = 0) := Lib.hid (by rw [hmany, hay, if_neg hneg])
          clear hmany hay hneg
          go_wp2
          go_meet
          exact ⟨by rw [Hm.out]; rfl, by first | rfl | trivial⟩
      · have hay := HFn.out v (by omega)
        have hvz : ¬ (v : Int) < (p2 : Int) := by omega
        have Hm : Hid (manyF (.v (v : Int)) F = 1) := Lib.hid (by rw [hmany, hay]; rfl)
        clear hmany hay
        go_wp2
        go_meet
        exact ⟨by rw [Hm.out]; rfl, by first | rfl | trivial⟩
  case rest =>
    obtain ⟨rfl, hwc⟩ := hcut
    rw [hwc]
    clear hwc
    have hw4 : IntKind.i64.wrap ((l.length : Int) + (manyF T F : Nat)) = ((l.length + manyF T F : Nat) : Int) := by rw [IntWalk.i64_in _ (by omega)]; omega
    obtain ⟨y0, y1, y2, yl⟩ := HY.out _ hb12
    generalize putA l T F = q at *
    obtain ⟨L, q1, q2⟩ := q
    have hlen := HLen.out
    simp only at hlen
    generalize manyF T F = M at *
    by_cases hfit : (L.length : Int) ≤ r
    · have hfz : ((l.length + M : Nat) : Int) ≤ r := by omega
      have hput := put_yes Hput.out rfl hfit
      have Hp2 := Lib.hid hput
      have HLz : ((L.length : Int) == ((l.length + M : Nat) : Int)) = true := by simp; omega
      clear Hput hput
      go_wp2_with fail
      refine Hp2.out.mono ?_
      rintro e5 w5 ⟨A5, c5, D5, d5, rfl, hC5, hI5, hbn⟩
      clear y0 y1 y2 yl
      obtain ⟨y0, y1, y2, yl⟩ := HY.out _ (hb12.trans (hbn.mono hb12.size))
      go_wp2
      refine bodyPost_ret (v := .bool true) (by simp [results, Try.results5, go_sem, *]) rfl ?_
      exact ⟨rfl, (hb2.trans (hbn.mono hb2.size)).alloc (by have := hb2.size; have := hbn.size; omega) _⟩
    · have hfz : ¬ ((l.length + M : Nat) : Int) ≤ r := by omega
      have hput := put_no Hput.out hfit
      have Hp2 := Lib.hid hput
      clear Hput hput
      go_wp2_with fail
      refine Hp2.out.mono ?_
      rintro e5 w5 ⟨rfl, hbn⟩
      clear y0 y1 y2 yl
      obtain ⟨y0, y1, y2, yl⟩ := HY.out _ (hb12.trans (hbn.mono hb12.size))
      go_wp2
      refine bodyPost_ret (v := .bool true) (by simp [results, Try.results5, go_sem, *]) rfl ?_
      exact ⟨rfl, (hb2.trans (hbn.mono hb2.size)).alloc (by have := hb2.size; have := hbn.size; omega) _⟩
end Go.Proofs.Ytlndjooddkjnoaa
