/- The walk of the law HeapMarks. -/
import Derived.WalkMore
import Derived.Test.YtlndjooddkjnoaaLH1
set_option linter.unusedVariables false
set_option linter.unusedSimpArgs false
namespace Go.Proofs.Ytlndjooddkjnoaa
open Go.RowKit
set_option maxRecDepth 100000 in
set_option maxHeartbeats 4000000 in
theorem heapMarks_walk (A : Option Addr) (n c : Nat) (l : List C) (B : Option Addr) (m d : Nat) (tr : List Int) (r : Int) (Aa : Option Addr) (na ca : Nat) (ta : List C) (a1 a2 : Int) (Ab : Option Addr) (nb cb : Nat) (tb : List C) (b1 b2 : Int) (w : World)
    (h : IsC w A n c l) (hT : IsI w B m d tr) (hr : i64 r) (hta : IsC w Aa na ca ta) (ia1 : i64 a1) (ia2 : i64 a2) (htb : IsC w Ab nb cb tb) (ib1 : i64 b1) (ib2 : i64 b2) :
    Calls Try.prog 10 #[.agg #[.slice A n c, .slice B m d, .int .i64 r], .agg #[.slice Aa na ca, .int .i64 a1, .int .i64 a2], .agg #[.slice Ab nb cb, .int .i64 b1, .int .i64 b2]] w (RetV w (.bool true)) := by
  cases hmay : mayH l tr r
  · go_enter Try.func10, Try.ntmps10
    go_upto_region 1 with fail
    refine wp_world' (Φ := fun X => Below w.heap.size w X ∧ HB X w.heap.size l tr r ∧ OB X (w.heap.size + 1) ta a1 a2 ∧ OB X (w.heap.size + 1 + 1) tb b1 b2) ⟨((bas _ _).alloc (by simp) _).alloc (by simp; omega) _, ((HB.box h hT).below (bas _ _)).below (bas _ _), by have := (OB.box (a := a1) (b := a2) (hta.below (bas w (.cells #[.slice A n c, .slice B m d, .int .i64 r] 25)))).below (bas _ (.cells #[.slice Ab nb cb, .int .i64 b1, .int .i64 b2] 28)); simpa using this, by have := OB.box (a := b1) (b := b2) ((htb.below (bas w (.cells #[.slice A n c, .slice B m d, .int .i64 r] 25))).below (bas _ (.cells #[.slice Aa na ca, .int .i64 a1, .int .i64 a2] 28))); simpa using this⟩ ?_
    rintro X ⟨hbX, hB, hO1, hO2⟩
    obtain ⟨g2, hg2⟩ : ∃ g2, g2 = w.heap.size + 1 + 1 := ⟨_, rfl⟩
    obtain ⟨g1, hg1⟩ : ∃ g1, g1 = w.heap.size + 1 := ⟨_, rfl⟩
    obtain ⟨g0, hg0⟩ : ∃ g0, g0 = w.heap.size := ⟨_, rfl⟩
    rw [← hg2] at hO2
    rw [← hg1] at hO1
    rw [← hg0] at hB
    try rw [← hg2]
    try rw [← hg1]
    try rw [← hg0]
    clear hg0 hg1 hg2
    go_wp2_with fail
    refine (head8_any _).mono ?_
    rintro e w1 ⟨rfl, hbn⟩
    replace hB := hB.below hbn
    replace hO1 := hO1.below hbn
    replace hO2 := hO2.below hbn
    replace hbX := hbX.trans (hbn.mono hbX.size)
    clear hbn
    generalize w1 = X at *
    obtain ⟨A1, c1, B1, d1, ⟨hC1, hN1⟩, hY⟩ := hB.open
    have hm := may8 (r := r) hC1 hN1
    obtain ⟨y0, y1, y2, yl⟩ := hY _ (Below.refl _ _)
    rw [hmay] at hm
    clear hY hC1 hN1
    go_wp2_with fail
    refine hm.mono ?_
    rintro e2 w2 ⟨rfl, hbn⟩
    clear y0 y1 y2 yl hm
    replace hB := hB.below hbn
    replace hO1 := hO1.below hbn
    replace hO2 := hO2.below hbn
    replace hbX := hbX.trans (hbn.mono hbX.size)
    clear hbn
    generalize w2 = X at *
    go_wp2
    refine bodyPost_ret (v := .bool true) (by simp [results, Try.results10, go_sem, *]) rfl ?_
    exact ⟨rfl, hbX⟩
  obtain ⟨_, _, hok⟩ := mayH_iff hmay
  have Hok := Lib.hid hok
  have Htb := Lib.hid htb.sl.hmax
  clear hok
  go_enter Try.func10, Try.ntmps10
  go_upto_region 1 with fail
  refine wp_world' (Φ := fun X => Below w.heap.size w X ∧ HB X w.heap.size l tr r ∧ OB X (w.heap.size + 1) ta a1 a2 ∧ OB X (w.heap.size + 1 + 1) tb b1 b2) ⟨((bas _ _).alloc (by simp) _).alloc (by simp; omega) _, ((HB.box h hT).below (bas _ _)).below (bas _ _), by have := (OB.box (a := a1) (b := a2) (hta.below (bas w (.cells #[.slice A n c, .slice B m d, .int .i64 r] 25)))).below (bas _ (.cells #[.slice Ab nb cb, .int .i64 b1, .int .i64 b2] 28)); simpa using this, by have := OB.box (a := b1) (b := b2) ((htb.below (bas w (.cells #[.slice A n c, .slice B m d, .int .i64 r] 25))).below (bas _ (.cells #[.slice Aa na ca, .int .i64 a1, .int .i64 a2] 28))); simpa using this⟩ ?_
  rintro X ⟨hbX, hB, hO1, hO2⟩
  obtain ⟨g2, hg2⟩ : ∃ g2, g2 = w.heap.size + 1 + 1 := ⟨_, rfl⟩
  obtain ⟨g1, hg1⟩ : ∃ g1, g1 = w.heap.size + 1 := ⟨_, rfl⟩
  obtain ⟨g0, hg0⟩ : ∃ g0, g0 = w.heap.size := ⟨_, rfl⟩
  rw [← hg2] at hO2
  rw [← hg1] at hO1
  rw [← hg0] at hB
  try rw [← hg2]
  try rw [← hg1]
  try rw [← hg0]
  clear hg0 hg1 hg2
  go_wp2_with fail
  refine (head8_any _).mono ?_
  rintro e w1 ⟨rfl, hbn⟩
  replace hB := hB.below hbn
  replace hO1 := hO1.below hbn
  replace hO2 := hO2.below hbn
  replace hbX := hbX.trans (hbn.mono hbX.size)
  clear hbn
  generalize w1 = X at *
  obtain ⟨A1, c1, B1, d1, ⟨hC1, hN1⟩, hY⟩ := hB.open
  have hm := may8 (r := r) hC1 hN1
  obtain ⟨y0, y1, y2, yl⟩ := hY _ (Below.refl _ _)
  rw [hmay] at hm
  clear hY hC1 hN1
  go_wp2_with fail
  refine hm.mono ?_
  rintro e2 w2 ⟨rfl, hbn⟩
  clear y0 y1 y2 yl hm
  replace hB := hB.below hbn
  replace hO1 := hO1.below hbn
  replace hO2 := hO2.below hbn
  replace hbX := hbX.trans (hbn.mono hbX.size)
  clear hbn
  generalize w2 = X at *
  go_upto_region 4 with fail
  go_cut [8] from 24 to 25 (fun v1 wx => ∃ gm : Nat, v1 = .pointer (some ⟨gm, 0, none⟩) ∧ MB wx gm l.length tr.length ∧ Below X.heap.size X wx)
  case first =>
    obtain ⟨A1, c1, B1, d1, ⟨hC1, hN1⟩, hY⟩ := hB.open
    obtain ⟨y0, y1, y2, yl⟩ := hY _ (Below.refl _ _)
    clear hY hO1 hO2 hB
    go_wp2_with (first | (go_at_call 25; go_must (refine (mark8 Hok.out).mono ?_); rintro e wn ⟨rfl, hbn⟩))
    go_meet
    exact ⟨wn.heap.size, rfl, alloc_at rfl, hbn.alloc hbn.size _⟩
  case rest =>
    obtain ⟨gm1, rfl, hM1, hbn⟩ := hcut
    replace hB := hB.below hbn
    replace hO1 := hO1.below hbn
    replace hO2 := hO2.below hbn
    replace hbX := hbX.trans (hbn.mono hbX.size)
    clear hbn
    generalize wc = X at *
    go_upto_region 5 with fail
    go_cut [9] from 26 to 34 (fun v1 wx => ∃ gx : Nat, v1 = .pointer (some ⟨gx, 0, none⟩) ∧ HB wx gx (uRes l tr a1 a2).1 (uRes l tr a1 a2).2 r ∧ Below X.heap.size X wx)
    case first =>
      obtain ⟨A1, c1, B1, d1, ⟨hC1, hN1⟩, hY⟩ := hB.open
      obtain ⟨Aq, cq, hCq, hYq⟩ := hO1.open
      obtain ⟨y0, y1, y2, yl⟩ := hY _ (Below.refl _ _)
      obtain ⟨z0, z1, z2, zl⟩ := hYq _ (Below.refl _ _)
      have Hu := Lib.hid (uni8 hC1 hN1 Hok.out a1 a2)
      clear hY hYq hO1 hO2 hB hM1 hC1 hN1 hCq
      generalize (uniZ l tr a1 a2).isSome = is1 at *
      go_wp2_with (first | (go_at_call 23; go_must (refine Hu.out.mono ?_); rintro e wn ⟨A5, c5, B5, d5, rfl, hC5, hN5, hbn⟩))
      go_meet
      exact ⟨wn.heap.size, rfl, ⟨A5, c5, B5, d5, alloc_at rfl, hC5.below (bas _ _), hN5.below (bas _ _)⟩, hbn.alloc hbn.size _⟩
    case rest =>
      obtain ⟨gx, rfl, hBx, hbn⟩ := hcut
      replace hB := hB.below hbn
      replace hO1 := hO1.below hbn
      replace hO2 := hO2.below hbn
      replace hbX := hbX.trans (hbn.mono hbX.size)
      replace hM1 := hM1.below hbn
      clear hbn
      generalize wc = X at *
      obtain ⟨ok1, len1, ds1, hs1⟩ := uni_ok Hok.out a1 a2
      generalize uRes l tr a1 a2 = q at *
      obtain ⟨L1, T1⟩ := q
      simp only at ok1 len1 hs1 hBx
      have Ok1 := Lib.hid ok1
      have Hs1 := Lib.hid hs1
      clear ok1 len1 hs1
      go_upto_region 6 with fail
      go_cut [11] from 35 to 36 (fun v1 wx => ∃ gm : Nat, v1 = .pointer (some ⟨gm, 0, none⟩) ∧ MB wx gm L1.length T1.length ∧ Below X.heap.size X wx)
      case first =>
        obtain ⟨A1, c1, B1, d1, ⟨hC1, hN1⟩, hY⟩ := hBx.open
        obtain ⟨y0, y1, y2, yl⟩ := hY _ (Below.refl _ _)
        clear hY hO1 hO2 hB hM1 hBx
        go_wp2_with (first | (go_at_call 25; go_must (refine (mark8 Ok1.out).mono ?_); rintro e wn ⟨rfl, hbn⟩))
        go_meet
        exact ⟨wn.heap.size, rfl, alloc_at rfl, hbn.alloc hbn.size _⟩
      case rest =>
        obtain ⟨gm2, rfl, hM2, hbn⟩ := hcut
        replace hB := hB.below hbn
        replace hO1 := hO1.below hbn
        replace hO2 := hO2.below hbn
        replace hbX := hbX.trans (hbn.mono hbX.size)
        replace hM1 := hM1.below hbn
        replace hBx := hBx.below hbn
        clear hbn
        generalize wc = X at *
        go_upto_region 7 with fail
        go_cut [12] from 37 to 45 (fun v1 wx => ∃ gy : Nat, v1 = .pointer (some ⟨gy, 0, none⟩) ∧ X.heap.size ≤ gy ∧ HB wx gy (uRes L1 T1 b1 b2).1 (uRes L1 T1 b1 b2).2 r ∧ Below X.heap.size X wx)
        case first =>
          obtain ⟨A1, c1, B1, d1, ⟨hC1, hN1⟩, hY⟩ := hBx.open
          obtain ⟨Aq, cq, hCq, hYq⟩ := hO2.open
          obtain ⟨y0, y1, y2, yl⟩ := hY _ (Below.refl _ _)
          obtain ⟨z0, z1, z2, zl⟩ := hYq _ (Below.refl _ _)
          have Hu := Lib.hid (uni8 hC1 hN1 Ok1.out b1 b2)
          clear hY hYq hO1 hO2 hB hM1 hM2 hBx hC1 hN1 hCq
          generalize (uniZ L1 T1 b1 b2).isSome = is1 at *
          go_wp2_with (first | (go_at_call 23; go_must (refine Hu.out.mono ?_); rintro e wn ⟨A5, c5, B5, d5, rfl, hC5, hN5, hbn⟩))
          go_meet
          exact ⟨wn.heap.size, rfl, hbn.size, ⟨A5, c5, B5, d5, alloc_at rfl, hC5.below (bas _ _), hN5.below (bas _ _)⟩, hbn.alloc hbn.size _⟩
        case rest =>
          obtain ⟨gy, rfl, hgy, hBy, hbn⟩ := hcut
          have n0 : g0 ≠ gy := by have := hB.lt; omega
          have nx : gx ≠ gy := by have := hBx.lt; omega
          have nm1 : gm1 ≠ gy := by have := hM1.lt; omega
          have nm2 : gm2 ≠ gy := by have := hM2.lt; omega
          have nw : w.heap.size ≤ gy := by have := hbX.size; omega
          replace hB := hB.below hbn
          replace hO1 := hO1.below hbn
          replace hO2 := hO2.below hbn
          replace hbX := hbX.trans (hbn.mono hbX.size)
          replace hM1 := hM1.below hbn
          replace hM2 := hM2.below hbn
          replace hBx := hBx.below hbn
          clear hbn hgy
          generalize wc = X at *
          obtain ⟨ok2, len2, ds2, hs2⟩ := uni_ok Ok1.out b1 b2
          generalize uRes L1 T1 b1 b2 = q at *
          obtain ⟨L2, T2⟩ := q
          simp only at ok2 len2 hs2 hBy
          have Ok2 := Lib.hid ok2
          have Hs2 := Lib.hid hs2
          have hll := ok2.tr_len
          clear ok2 len2 hs2
          refine ‹∀ (a : Act) (w : World), Code.wp _ _ _ a w → _› _ _ ?_
          refine wp_seq_k fun K7 hK7 => ?_
          go_cut [14] from 14 to 63 (fun _ wx => ∃ (L3 : List C) (ds3 : List Int), HB wx gy L3 T2 r ∧ OkH ⟨L3, T2, r⟩ ∧ Hst L2 T2 L3 T2 ds3 ∧ HB wx g0 l tr r ∧ HB wx gx L1 T1 r ∧ MB wx gm1 l.length tr.length ∧ MB wx gm2 L1.length T1.length ∧ Below w.heap.size w wx)
          case first =>
            obtain ⟨Aq, cq, hCq, hYq⟩ := hO2.open
            obtain ⟨z0, z1, z2, zl⟩ := hYq _ (Below.refl _ _)
            by_cases h210 : 210 < tb.length
            · have hz : ¬ (tb.length : Int) ≤ 210 := by omega
              have Hall := Lib.hid (show HB X gy L2 T2 r ∧ OkH ⟨L2, T2, r⟩ ∧ Hst L2 T2 L2 T2 [] ∧ HB X g0 l tr r ∧ HB X gx L1 T1 r ∧ MB X gm1 l.length tr.length ∧ MB X gm2 L1.length T1.length ∧ Below w.heap.size w X from ⟨hBy, Ok2.out, Hst.refl _ _, hB, hBx, hM1, hM2, hbX⟩)
              clear hBy hB hBx hM1 hM2 hbX hO1 hO2 hCq hYq
              go_wp2
              go_meet
              exact ⟨L2, [], Hall.out⟩
            · have hz : (tb.length : Int) ≤ 210 := by omega
              have hri := rRight_any Aq tb.length cq tb X hCq (by omega)
              cases hrt : rightB tb
              · rw [hrt] at hri
                have Hri := Lib.hid hri
                have Hall := Lib.hid (show ∀ wx, Below X.heap.size X wx → HB wx gy L2 T2 r ∧ OkH ⟨L2, T2, r⟩ ∧ Hst L2 T2 L2 T2 [] ∧ HB wx g0 l tr r ∧ HB wx gx L1 T1 r ∧ MB wx gm1 l.length tr.length ∧ MB wx gm2 L1.length T1.length ∧ Below w.heap.size w wx from fun wx hb => ⟨hBy.below hb, Ok2.out, Hst.refl _ _, hB.below hb, hBx.below hb, hM1.below hb, hM2.below hb, hbX.trans (hb.mono hbX.size)⟩)
                clear hBy hB hBx hM1 hM2 hbX hO1 hO2 hCq hYq hri hrt
                go_wp2_with (first | (go_at_call 17; go_must (refine Hri.out.mono ?_); rintro e wn ⟨rfl, hbn⟩))
                go_meet
                exact ⟨L2, [], Hall.out _ hbn⟩
              · rw [hrt] at hri
                have Hri := Lib.hid hri
                obtain ⟨T, hTok, hTf, hTs⟩ := right_tree hrt
                obtain ⟨Ay, cy, By, dy, ⟨hCy, hNy⟩, hYy⟩ := hBy.open
                have hrb := hBy.rb
                obtain ⟨ok3, ds3, hs3⟩ := pRes_ok Ok2.out hTok (atL_nil L2.length) (a := [])
                have Hput := Lib.hid (show ∀ wx, Below X.heap.size X wx → _ from fun wx hb => put8 (B := By) (d := dy) (tr := T2) (r := r) (hCy.below hb) (by rw [hTf]; exact hCq.below hb) (isI_nil8 wx none) Ok2.out hTok hTs (by simp))
                have HNy := Lib.hid hNy
                have Hrb := Lib.hid hrb
                have HYy := Lib.hid hYy
                have HYq := Lib.hid hYq
                have Ok3 := Lib.hid ok3
                have Hs3 := Lib.hid hs3
                have Hall := Lib.hid (show ∀ wx, Below X.heap.size X wx → HB wx g0 l tr r ∧ HB wx gx L1 T1 r ∧ MB wx gm1 l.length tr.length ∧ MB wx gm2 L1.length T1.length ∧ Below w.heap.size w wx from fun wx hb => ⟨hB.below hb, hBx.below hb, hM1.below hb, hM2.below hb, hbX.trans (hb.mono hbX.size)⟩)
                clear hBy hB hBx hM1 hM2 hbX hO1 hO2 hCq hYq hri hrt hCy hNy hYy hrb ok3 hs3
                generalize putA L2 T [] = pt at *
                generalize pRes L2 T [] r = L3 at *
                go_upto_region 9 with (first | (go_at_call 17; go_must (refine Hri.out.mono ?_); rintro e wn ⟨rfl, hbn⟩))
                clear z0 z1 z2 zl
                obtain ⟨z0, z1, z2, zl⟩ := HYq.out _ hbn
                obtain ⟨y0, y1, y2, yl⟩ := HYy.out _ hbn
                go_upto_region 10 with (first | (go_at_call 19; go_must (refine (Hput.out _ hbn).mono ?_); rintro e wp ⟨A5, c5, D5, n5, d5, q5, x5, rfl, hC5, hbp, _⟩))
                clear y0 y1 y2 yl z0 z1 z2 zl
                have hb5 := hbn.trans (hbp.mono hbn.size)
                have hall5 := Hall.out _ (hb5.trans ((bas wp (.cells #[.slice A5 L3.length c5, .slice By T2.length dy, .int .i64 r] 25)).mono hb5.size))
                have hrb5 := (Hrb.out.below hb5).below (bas wp (.cells #[.slice A5 L3.length c5, .slice By T2.length dy, .int .i64 r] 25))
                obtain ⟨v0, v1, u0, u1, u2, ul, f0, f1, f2⟩ := hrb5.open
                obtain ⟨hst, hkq⟩ := HB.store hrb5 (hC5.below (bas _ _)) ((HNy.out.below hb5).below (bas _ _)) Ok3.out
                have Hst5 := Lib.hid hst
                have Hkq5 := Lib.hid hkq
                have Hrb5 := Lib.hid hrb5
                have Hall5 := Lib.hid hall5
                clear hst hkq hrb5 hall5 hC5 hbp hbn hb5 Hput Hri
                go_wp2
                go_meet
                obtain ⟨a1', a2', a3', a4', a5'⟩ := Hall5.out
                exact ⟨L3, ds3, Hst5.out, Ok3.out, Hs3.out, a1'.kq Hok.out Hkq5.out Hrb5.out n0, a2'.kq Ok1.out Hkq5.out Hrb5.out nx, a3'.kq Hkq5.out nm1, a4'.kq Hkq5.out nm2, a5'.trans (Hkq5.out.bel.mono nw)⟩
          case rest =>
            obtain ⟨L3, ds3, hBy3, ok3, hs3, hB3, hBx3, hM13, hM23, hbw⟩ := hcut
            have Ok3 := Lib.hid ok3
            have Hs3 := Lib.hid hs3
            clear hBy hB hBx hM1 hM2 hbX hO1 hO2 ok3 hs3
            generalize wc = X at *
            refine hK7 _ _ ?_
            go_upto_region 11 with fail
            go_cut [18] from 65 to 67 (fun v1 wx => ∃ gb : Nat, v1 = .pointer (some ⟨gb, 0, none⟩) ∧ HB wx gb L1 T1 r ∧ Below X.heap.size X wx)
            case first =>
              obtain ⟨A1, c1, B1, d1, ⟨hC1, hN1⟩, hY⟩ := hBy3.open
              obtain ⟨y0, y1, y2, yl⟩ := hY _ (Below.refl _ _)
              obtain ⟨z0, z1, z2, zl⟩ := hM23.open _ (Below.refl _ _)
              have Hu := Lib.hid (undo8 (R := none) (k := 0) (kc := 0) hC1 hN1 Ok3.out (Hs2.out.trans Hs3.out))
              clear hY hB3 hBx3 hM13 hM23 hBy3 hC1 hN1 hbw
              go_wp2_with (first | (go_at_call 29; go_must (refine Hu.out.mono ?_); rintro e wn ⟨A5, c5, B5, d5, rfl, hC5, hN5, hbn⟩))
              go_meet
              exact ⟨wn.heap.size, rfl, ⟨A5, c5, B5, d5, alloc_at rfl, hC5.below (bas _ _), hN5.below (bas _ _)⟩, hbn.alloc hbn.size _⟩
            case rest =>
              obtain ⟨gb, rfl, hBb, hbn⟩ := hcut
              replace hBy3 := hBy3.below hbn
              replace hB3 := hB3.below hbn
              replace hBx3 := hBx3.below hbn
              replace hM13 := hM13.below hbn
              replace hbw := hbw.trans (hbn.mono hbw.size)
              clear hbn hM23
              generalize wc = X at *
              go_upto_region 12 with fail
              obtain ⟨A1, c1, B1, d1, ⟨hC1, hN1⟩, hY1⟩ := hBb.open
              obtain ⟨A2, c2, B2, d2, ⟨hC2, hN2⟩, hY2⟩ := hBx3.open
              obtain ⟨A3, c3, B3, d3, ⟨hC3, hN3⟩, hY3⟩ := hBy3.open
              obtain ⟨A4, c4, B4, d4, ⟨hC4, hN4⟩, hY4⟩ := hB3.open
              have hY5 := hM13.open
              have hS : ∀ w', Below X.heap.size X w' → w'.cell? ⟨gb, 0, none⟩ = some (.slice A1 L1.length c1) ∧ w'.cell? ⟨gb, 1, none⟩ = some (.slice B1 T1.length d1) ∧ w'.cell? ⟨gb, 2, none⟩ = some (.int .i64 r) ∧ w'.cell? ⟨gx, 0, none⟩ = some (.slice A2 L1.length c2) ∧ w'.cell? ⟨gx, 1, none⟩ = some (.slice B2 T1.length d2) ∧ w'.cell? ⟨gx, 2, none⟩ = some (.int .i64 r) ∧ w'.cell? ⟨gy, 0, none⟩ = some (.slice A3 L3.length c3) ∧ w'.cell? ⟨gy, 1, none⟩ = some (.slice B3 T2.length d3) ∧ w'.cell? ⟨gy, 2, none⟩ = some (.int .i64 r) ∧ w'.cell? ⟨g0, 0, none⟩ = some (.slice A4 l.length c4) ∧ w'.cell? ⟨g0, 1, none⟩ = some (.slice B4 tr.length d4) ∧ w'.cell? ⟨g0, 2, none⟩ = some (.int .i64 r) ∧ w'.cell? ⟨gm1, 0, none⟩ = some (.int .i64 l.length) ∧ w'.cell? ⟨gm1, 1, none⟩ = some (.int .i64 tr.length) ∧ w'.cell? ⟨gm1, 2, none⟩ = some (.slice none 0 0) := fun w' hb => by
                obtain ⟨p0, p1, p2, _⟩ := hY1 w' hb
                obtain ⟨q0, q1, q2, _⟩ := hY2 w' hb
                obtain ⟨r0, r1, r2, _⟩ := hY3 w' hb
                obtain ⟨s0, s1, s2, _⟩ := hY4 w' hb
                obtain ⟨t0, t1, t2, _⟩ := hY5 w' hb
                exact ⟨p0, p1, p2, q0, q1, q2, r0, r1, r2, s0, s1, s2, t0, t1, t2⟩
              refine wp_region_held_drew (S := fun w' => w'.cell? ⟨gb, 0, none⟩ = some (.slice A1 L1.length c1) ∧ w'.cell? ⟨gb, 1, none⟩ = some (.slice B1 T1.length d1) ∧ w'.cell? ⟨gb, 2, none⟩ = some (.int .i64 r) ∧ w'.cell? ⟨gx, 0, none⟩ = some (.slice A2 L1.length c2) ∧ w'.cell? ⟨gx, 1, none⟩ = some (.slice B2 T1.length d2) ∧ w'.cell? ⟨gx, 2, none⟩ = some (.int .i64 r) ∧ w'.cell? ⟨gy, 0, none⟩ = some (.slice A3 L3.length c3) ∧ w'.cell? ⟨gy, 1, none⟩ = some (.slice B3 T2.length d3) ∧ w'.cell? ⟨gy, 2, none⟩ = some (.int .i64 r) ∧ w'.cell? ⟨g0, 0, none⟩ = some (.slice A4 l.length c4) ∧ w'.cell? ⟨g0, 1, none⟩ = some (.slice B4 tr.length d4) ∧ w'.cell? ⟨g0, 2, none⟩ = some (.int .i64 r) ∧ w'.cell? ⟨gm1, 0, none⟩ = some (.int .i64 l.length) ∧ w'.cell? ⟨gm1, 1, none⟩ = some (.int .i64 tr.length) ∧ w'.cell? ⟨gm1, 2, none⟩ = some (.slice none 0 0)) (by kernel_rfl) ?gs ?gr
              case gs => exact hS _ (Below.refl _ _).drew
              case gr =>
                intro hHeld
                have HS := Lib.hid hS
                have HC1 := Lib.hid hC1
                have HN1 := Lib.hid hN1
                have HC2 := Lib.hid hC2
                have HN2 := Lib.hid hN2
                have HC3 := Lib.hid hC3
                have HN3 := Lib.hid hN3
                have HC4 := Lib.hid hC4
                have HN4 := Lib.hid hN4
                have Hbw := Lib.hid hbw
                have HV : Hid (Below X.heap.size X X.drew) := Lib.hid ((Below.refl _ _).drew)
                clear hS hY1 hY2 hY3 hY4 hY5 hC1 hN1 hC2 hN2 hC3 hN3 hC4 hN4 hBb hBx3 hBy3 hB3 hM13 hbw
                generalize X.drew = V at *
                refine wpAnyH_take (i := 0) (oi := ?oi0u1) (v := ?v0u1) ?hi0u1 (by kernel_rfl) (by kernel_rfl) (by kernel_rfl) ?hQ0u1 (Or.inl ⟨?hw0u1, ?hy0u1⟩) hHeld ?rest0u1
                case hi0u1 => (simp only [List.getElem?_toArray, List.getElem?_cons_succ, List.getElem?_cons_zero]; exact rfl)
                case hQ0u1 => exact fun _ _ _ h => h
                case hw0u1 => rfl
                case hy0u1 => (intro w hSw; (try dsimp only at hSw); go_simp <;> with_reducible rfl)
                try simp only [Act.put, List.setIfInBounds_toArray, List.set_cons_zero, List.set_cons_succ]
                refine wpAnyH_take (i := 1) (oi := ?oi1u2) (v := ?v1u2) ?hi1u2 (by kernel_rfl) (by kernel_rfl) (by kernel_rfl) ?hQ1u2 (Or.inl ⟨?hw1u2, ?hy1u2⟩) hHeld ?rest1u2
                case hi1u2 => (simp only [List.getElem?_toArray, List.getElem?_cons_succ, List.getElem?_cons_zero]; exact rfl)
                case hQ1u2 => exact fun _ _ _ h => h
                case hw1u2 => rfl
                case hy1u2 => (intro w hSw; (try dsimp only at hSw); go_simp <;> with_reducible rfl)
                try simp only [Act.put, List.setIfInBounds_toArray, List.set_cons_zero, List.set_cons_succ]
                refine held_one (i := 2) (o := ?oi2u3) (by kernel_rfl) ?hi2u3 (fun K hK => ?rest2u3)
                case hi2u3 => (simp only [List.getElem?_toArray, List.getElem?_cons_succ, List.getElem?_cons_zero]; exact rfl)
                go_simp
                go_at_call 14
                refine (sames8 Ok1.out (HC1.out.below HV.out) (HN1.out.below HV.out) (HC2.out.below HV.out) (HN2.out.below HV.out)).mono ?_
                rintro e wa ⟨rfl, hba⟩
                have Ha := Lib.hid (HV.out.trans (hba.mono HV.out.size))
                try go_simp
                have hHeld8 : (fun w' : World => w'.cell? ⟨gb, 0, none⟩ = some (.slice A1 L1.length c1) ∧ w'.cell? ⟨gb, 1, none⟩ = some (.slice B1 T1.length d1) ∧ w'.cell? ⟨gb, 2, none⟩ = some (.int .i64 r) ∧ w'.cell? ⟨gx, 0, none⟩ = some (.slice A2 L1.length c2) ∧ w'.cell? ⟨gx, 1, none⟩ = some (.slice B2 T1.length d2) ∧ w'.cell? ⟨gx, 2, none⟩ = some (.int .i64 r) ∧ w'.cell? ⟨gy, 0, none⟩ = some (.slice A3 L3.length c3) ∧ w'.cell? ⟨gy, 1, none⟩ = some (.slice B3 T2.length d3) ∧ w'.cell? ⟨gy, 2, none⟩ = some (.int .i64 r) ∧ w'.cell? ⟨g0, 0, none⟩ = some (.slice A4 l.length c4) ∧ w'.cell? ⟨g0, 1, none⟩ = some (.slice B4 tr.length d4) ∧ w'.cell? ⟨g0, 2, none⟩ = some (.int .i64 r) ∧ w'.cell? ⟨gm1, 0, none⟩ = some (.int .i64 l.length) ∧ w'.cell? ⟨gm1, 1, none⟩ = some (.int .i64 tr.length) ∧ w'.cell? ⟨gm1, 2, none⟩ = some (.slice none 0 0)) wa := HS.out _ Ha.out
                refine hK _ _ hHeld8 ?_
                clear hK K hHeld
                have hHeld := hHeld8
                clear hHeld8
                try simp only [Act.put, List.setIfInBounds_toArray, List.set_cons_zero, List.set_cons_succ]
                refine wpAnyH_take (i := 3) (oi := ?oi3u4) (v := ?v3u4) ?hi3u4 (by kernel_rfl) (by kernel_rfl) (by kernel_rfl) ?hQ3u4 (Or.inl ⟨?hw3u4, ?hy3u4⟩) hHeld ?rest3u4
                case hi3u4 => (simp only [List.getElem?_toArray, List.getElem?_cons_succ, List.getElem?_cons_zero]; exact rfl)
                case hQ3u4 => exact fun _ _ _ h => h
                case hw3u4 => rfl
                case hy3u4 => (intro w hSw; (try dsimp only at hSw); go_simp <;> with_reducible rfl)
                try simp only [Act.put, List.setIfInBounds_toArray, List.set_cons_zero, List.set_cons_succ]
                refine wpAnyH_take (i := 4) (oi := ?oi4u5) (v := ?v4u5) ?hi4u5 (by kernel_rfl) (by kernel_rfl) (by kernel_rfl) ?hQ4u5 (Or.inl ⟨?hw4u5, ?hy4u5⟩) hHeld ?rest4u5
                case hi4u5 => (simp only [List.getElem?_toArray, List.getElem?_cons_succ, List.getElem?_cons_zero]; exact rfl)
                case hQ4u5 => exact fun _ _ _ h => h
                case hw4u5 => rfl
                case hy4u5 => (intro w hSw; (try dsimp only at hSw); go_simp <;> with_reducible rfl)
                try simp only [Act.put, List.setIfInBounds_toArray, List.set_cons_zero, List.set_cons_succ]
                refine wpAnyH_take (i := 5) (oi := ?oi5u6) (v := ?v5u6) ?hi5u6 (by kernel_rfl) (by kernel_rfl) (by kernel_rfl) ?hQ5u6 (Or.inl ⟨?hw5u6, ?hy5u6⟩) hHeld ?rest5u6
                case hi5u6 => (simp only [List.getElem?_toArray, List.getElem?_cons_succ, List.getElem?_cons_zero]; exact rfl)
                case hQ5u6 => exact fun _ _ _ h => h
                case hw5u6 => rfl
                case hy5u6 => (intro w hSw; (try dsimp only at hSw); go_simp <;> with_reducible rfl)
                try simp only [Act.put, List.setIfInBounds_toArray, List.set_cons_zero, List.set_cons_succ]
                refine wpAnyH_take (i := 7) (oi := ?oi7u7) (v := ?v7u7) ?hi7u7 (by kernel_rfl) (by kernel_rfl) (by kernel_rfl) ?hQ7u7 (Or.inl ⟨?hw7u7, ?hy7u7⟩) hHeld ?rest7u7
                case hi7u7 => (simp only [List.getElem?_toArray, List.getElem?_cons_succ, List.getElem?_cons_zero]; exact rfl)
                case hQ7u7 => exact fun _ _ _ h => h
                case hw7u7 => rfl
                case hy7u7 => (intro w hSw; (try dsimp only at hSw); go_simp <;> with_reducible rfl)
                try simp only [Act.put, List.setIfInBounds_toArray, List.set_cons_zero, List.set_cons_succ]
                refine held_one (i := 6) (o := ?oi6u8) (by kernel_rfl) ?hi6u8 (fun K hK => ?rest6u8)
                case hi6u8 => (simp only [List.getElem?_toArray, List.getElem?_cons_succ, List.getElem?_cons_zero]; exact rfl)
                go_simp
                go_at_call 29
                refine (undo8 (R := none) (k := 0) (kc := 0) (HC3.out.below Ha.out) (HN3.out.below Ha.out) Ok3.out ((Hs1.out.trans Hs2.out).trans Hs3.out)).mono ?_
                rintro e wb ⟨A5, c5, B5, d5, rfl, hC5, hN5, hbb⟩
                have Hb := Lib.hid (Ha.out.trans (hbb.mono Ha.out.size))
                have HC5 := Lib.hid hC5
                have HN5 := Lib.hid hN5
                clear hC5 hN5
                try go_simp
                have hHeld8 : (fun w' : World => w'.cell? ⟨gb, 0, none⟩ = some (.slice A1 L1.length c1) ∧ w'.cell? ⟨gb, 1, none⟩ = some (.slice B1 T1.length d1) ∧ w'.cell? ⟨gb, 2, none⟩ = some (.int .i64 r) ∧ w'.cell? ⟨gx, 0, none⟩ = some (.slice A2 L1.length c2) ∧ w'.cell? ⟨gx, 1, none⟩ = some (.slice B2 T1.length d2) ∧ w'.cell? ⟨gx, 2, none⟩ = some (.int .i64 r) ∧ w'.cell? ⟨gy, 0, none⟩ = some (.slice A3 L3.length c3) ∧ w'.cell? ⟨gy, 1, none⟩ = some (.slice B3 T2.length d3) ∧ w'.cell? ⟨gy, 2, none⟩ = some (.int .i64 r) ∧ w'.cell? ⟨g0, 0, none⟩ = some (.slice A4 l.length c4) ∧ w'.cell? ⟨g0, 1, none⟩ = some (.slice B4 tr.length d4) ∧ w'.cell? ⟨g0, 2, none⟩ = some (.int .i64 r) ∧ w'.cell? ⟨gm1, 0, none⟩ = some (.int .i64 l.length) ∧ w'.cell? ⟨gm1, 1, none⟩ = some (.int .i64 tr.length) ∧ w'.cell? ⟨gm1, 2, none⟩ = some (.slice none 0 0)) wb := HS.out _ Hb.out
                refine hK _ _ hHeld8 ?_
                clear hK K hHeld
                have hHeld := hHeld8
                clear hHeld8
                try simp only [Act.put, List.setIfInBounds_toArray, List.set_cons_zero, List.set_cons_succ]
                refine held_one (i := 8) (o := ?oi8u9) (by kernel_rfl) ?hi8u9 (fun K hK => ?rest8u9)
                case hi8u9 => (simp only [List.getElem?_toArray, List.getElem?_cons_succ, List.getElem?_cons_zero]; exact rfl)
                go_simp
                go_at_call 14
                refine (sames8 Hok.out HC5.out HN5.out (HC4.out.below Hb.out) (HN4.out.below Hb.out)).mono ?_
                rintro e wd ⟨rfl, hbd⟩
                have Hd := Lib.hid (Hb.out.trans (hbd.mono Hb.out.size))
                try go_simp
                have hHeld8 : (fun w' : World => w'.cell? ⟨gb, 0, none⟩ = some (.slice A1 L1.length c1) ∧ w'.cell? ⟨gb, 1, none⟩ = some (.slice B1 T1.length d1) ∧ w'.cell? ⟨gb, 2, none⟩ = some (.int .i64 r) ∧ w'.cell? ⟨gx, 0, none⟩ = some (.slice A2 L1.length c2) ∧ w'.cell? ⟨gx, 1, none⟩ = some (.slice B2 T1.length d2) ∧ w'.cell? ⟨gx, 2, none⟩ = some (.int .i64 r) ∧ w'.cell? ⟨gy, 0, none⟩ = some (.slice A3 L3.length c3) ∧ w'.cell? ⟨gy, 1, none⟩ = some (.slice B3 T2.length d3) ∧ w'.cell? ⟨gy, 2, none⟩ = some (.int .i64 r) ∧ w'.cell? ⟨g0, 0, none⟩ = some (.slice A4 l.length c4) ∧ w'.cell? ⟨g0, 1, none⟩ = some (.slice B4 tr.length d4) ∧ w'.cell? ⟨g0, 2, none⟩ = some (.int .i64 r) ∧ w'.cell? ⟨gm1, 0, none⟩ = some (.int .i64 l.length) ∧ w'.cell? ⟨gm1, 1, none⟩ = some (.int .i64 tr.length) ∧ w'.cell? ⟨gm1, 2, none⟩ = some (.slice none 0 0)) wd := HS.out _ Hd.out
                refine hK _ _ hHeld8 ?_
                clear hK K hHeld
                have hHeld := hHeld8
                clear hHeld8
                try simp only [Act.put, List.setIfInBounds_toArray, List.set_cons_zero, List.set_cons_succ]
                refine wpAnyH_take (i := 9) (oi := ?oi9u10) (v := ?v9u10) ?hi9u10 (by kernel_rfl) (by kernel_rfl) (by kernel_rfl) ?hQ9u10 (Or.inl ⟨?hw9u10, ?hy9u10⟩) hHeld ?rest9u10
                case hi9u10 => (simp only [List.getElem?_toArray, List.getElem?_cons_succ, List.getElem?_cons_zero]; exact rfl)
                case hQ9u10 => exact fun _ _ _ h => h
                case hw9u10 => rfl
                case hy9u10 => (intro w hSw; (try dsimp only at hSw); go_simp <;> with_reducible rfl)
                try simp only [Act.put, List.setIfInBounds_toArray, List.set_cons_zero, List.set_cons_succ]
                refine wpAnyH_take (i := 10) (oi := ?oi10u11) (v := ?v10u11) ?hi10u11 (by kernel_rfl) (by kernel_rfl) (by kernel_rfl) ?hQ10u11 (Or.inl ⟨?hw10u11, ?hy10u11⟩) hHeld ?rest10u11
                case hi10u11 => (simp only [List.getElem?_toArray, List.getElem?_cons_succ, List.getElem?_cons_zero]; exact rfl)
                case hQ10u11 => exact fun _ _ _ h => h
                case hw10u11 => rfl
                case hy10u11 => (intro w hSw; (try dsimp only at hSw); go_simp <;> with_reducible rfl)
                try simp only [Act.put, List.setIfInBounds_toArray, List.set_cons_zero, List.set_cons_succ]
                refine wpAnyH_take (i := 11) (oi := ?oi11u12) (v := ?v11u12) ?hi11u12 (by kernel_rfl) (by kernel_rfl) (by kernel_rfl) ?hQ11u12 (Or.inl ⟨?hw11u12, ?hy11u12⟩) hHeld ?rest11u12
                case hi11u12 => (simp only [List.getElem?_toArray, List.getElem?_cons_succ, List.getElem?_cons_zero]; exact rfl)
                case hQ11u12 => exact fun _ _ _ h => h
                case hw11u12 => rfl
                case hy11u12 => (intro w hSw; (try dsimp only at hSw); go_simp <;> with_reducible rfl)
                try simp only [Act.put, List.setIfInBounds_toArray, List.set_cons_zero, List.set_cons_succ]
                refine wpAnyH_take (i := 12) (oi := ?oi12u13) (v := ?v12u13) ?hi12u13 (by kernel_rfl) (by kernel_rfl) (by kernel_rfl) ?hQ12u13 (Or.inl ⟨?hw12u13, ?hy12u13⟩) hHeld ?rest12u13
                case hi12u13 => (simp only [List.getElem?_toArray, List.getElem?_cons_succ, List.getElem?_cons_zero]; exact rfl)
                case hQ12u13 => exact fun _ _ _ h => h
                case hw12u13 => rfl
                case hy12u13 => (intro w hSw; (try dsimp only at hSw); go_simp <;> with_reducible rfl)
                try simp only [Act.put, List.setIfInBounds_toArray, List.set_cons_zero, List.set_cons_succ]
                refine wpAnyH_take (i := 14) (oi := ?oi14u14) (v := ?v14u14) ?hi14u14 (by kernel_rfl) (by kernel_rfl) (by kernel_rfl) ?hQ14u14 (Or.inl ⟨?hw14u14, ?hy14u14⟩) hHeld ?rest14u14
                case hi14u14 => (simp only [List.getElem?_toArray, List.getElem?_cons_succ, List.getElem?_cons_zero]; exact rfl)
                case hQ14u14 => exact fun _ _ _ h => h
                case hw14u14 => rfl
                case hy14u14 => (intro w hSw; (try dsimp only at hSw); go_simp <;> with_reducible rfl)
                try simp only [Act.put, List.setIfInBounds_toArray, List.set_cons_zero, List.set_cons_succ]
                refine held_one (i := 13) (o := ?oi13u15) (by kernel_rfl) ?hi13u15 (fun K hK => ?rest13u15)
                case hi13u15 => (simp only [List.getElem?_toArray, List.getElem?_cons_succ, List.getElem?_cons_zero]; exact rfl)
                go_simp
                go_at_call 29
                refine (undo8 (R := none) (k := 0) (kc := 0) (HC1.out.below Hd.out) (HN1.out.below Hd.out) Ok1.out Hs1.out).mono ?_
                rintro e we ⟨A6, c6, B6, d6, rfl, hC6, hN6, hbe⟩
                have He := Lib.hid (Hd.out.trans (hbe.mono Hd.out.size))
                have HC6 := Lib.hid hC6
                have HN6 := Lib.hid hN6
                clear hC6 hN6
                try go_simp
                have hHeld8 : (fun w' : World => w'.cell? ⟨gb, 0, none⟩ = some (.slice A1 L1.length c1) ∧ w'.cell? ⟨gb, 1, none⟩ = some (.slice B1 T1.length d1) ∧ w'.cell? ⟨gb, 2, none⟩ = some (.int .i64 r) ∧ w'.cell? ⟨gx, 0, none⟩ = some (.slice A2 L1.length c2) ∧ w'.cell? ⟨gx, 1, none⟩ = some (.slice B2 T1.length d2) ∧ w'.cell? ⟨gx, 2, none⟩ = some (.int .i64 r) ∧ w'.cell? ⟨gy, 0, none⟩ = some (.slice A3 L3.length c3) ∧ w'.cell? ⟨gy, 1, none⟩ = some (.slice B3 T2.length d3) ∧ w'.cell? ⟨gy, 2, none⟩ = some (.int .i64 r) ∧ w'.cell? ⟨g0, 0, none⟩ = some (.slice A4 l.length c4) ∧ w'.cell? ⟨g0, 1, none⟩ = some (.slice B4 tr.length d4) ∧ w'.cell? ⟨g0, 2, none⟩ = some (.int .i64 r) ∧ w'.cell? ⟨gm1, 0, none⟩ = some (.int .i64 l.length) ∧ w'.cell? ⟨gm1, 1, none⟩ = some (.int .i64 tr.length) ∧ w'.cell? ⟨gm1, 2, none⟩ = some (.slice none 0 0)) we := HS.out _ He.out
                refine hK _ _ hHeld8 ?_
                clear hK K hHeld
                have hHeld := hHeld8
                clear hHeld8
                try simp only [Act.put, List.setIfInBounds_toArray, List.set_cons_zero, List.set_cons_succ]
                refine held_one (i := 15) (o := ?oi15u16) (by kernel_rfl) ?hi15u16 (fun K hK => ?rest15u16)
                case hi15u16 => (simp only [List.getElem?_toArray, List.getElem?_cons_succ, List.getElem?_cons_zero]; exact rfl)
                go_simp
                go_at_call 14
                refine (sames8 Hok.out HC6.out HN6.out (HC4.out.below He.out) (HN4.out.below He.out)).mono ?_
                rintro e wf ⟨rfl, hbf⟩
                have Hf := Lib.hid (He.out.trans (hbf.mono He.out.size))
                try go_simp
                have hHeld8 : (fun w' : World => w'.cell? ⟨gb, 0, none⟩ = some (.slice A1 L1.length c1) ∧ w'.cell? ⟨gb, 1, none⟩ = some (.slice B1 T1.length d1) ∧ w'.cell? ⟨gb, 2, none⟩ = some (.int .i64 r) ∧ w'.cell? ⟨gx, 0, none⟩ = some (.slice A2 L1.length c2) ∧ w'.cell? ⟨gx, 1, none⟩ = some (.slice B2 T1.length d2) ∧ w'.cell? ⟨gx, 2, none⟩ = some (.int .i64 r) ∧ w'.cell? ⟨gy, 0, none⟩ = some (.slice A3 L3.length c3) ∧ w'.cell? ⟨gy, 1, none⟩ = some (.slice B3 T2.length d3) ∧ w'.cell? ⟨gy, 2, none⟩ = some (.int .i64 r) ∧ w'.cell? ⟨g0, 0, none⟩ = some (.slice A4 l.length c4) ∧ w'.cell? ⟨g0, 1, none⟩ = some (.slice B4 tr.length d4) ∧ w'.cell? ⟨g0, 2, none⟩ = some (.int .i64 r) ∧ w'.cell? ⟨gm1, 0, none⟩ = some (.int .i64 l.length) ∧ w'.cell? ⟨gm1, 1, none⟩ = some (.int .i64 tr.length) ∧ w'.cell? ⟨gm1, 2, none⟩ = some (.slice none 0 0)) wf := HS.out _ Hf.out
                refine hK _ _ hHeld8 ?_
                clear hK K hHeld
                have hHeld := hHeld8
                clear hHeld8
                try simp only [Act.put, List.setIfInBounds_toArray, List.set_cons_zero, List.set_cons_succ]
                refine wpAnyH_take (i := 16) (oi := ?oi16u17) (v := ?v16u17) ?hi16u17 (by kernel_rfl) (by kernel_rfl) (by kernel_rfl) ?hQ16u17 (Or.inl ⟨?hw16u17, ?hy16u17⟩) hHeld ?rest16u17
                case hi16u17 => (simp only [List.getElem?_toArray, List.getElem?_cons_succ, List.getElem?_cons_zero]; exact rfl)
                case hQ16u17 => exact fun _ _ _ h => h
                case hw16u17 => rfl
                case hy16u17 => (intro w hSw; (try dsimp only at hSw); go_simp <;> with_reducible rfl)
                try simp only [Act.put, List.setIfInBounds_toArray, List.set_cons_zero, List.set_cons_succ]
                refine wpAnyH_take (i := 17) (oi := ?oi17u18) (v := ?v17u18) ?hi17u18 (by kernel_rfl) (by kernel_rfl) (by kernel_rfl) ?hQ17u18 (Or.inl ⟨?hw17u18, ?hy17u18⟩) hHeld ?rest17u18
                case hi17u18 => (simp only [List.getElem?_toArray, List.getElem?_cons_succ, List.getElem?_cons_zero]; exact rfl)
                case hQ17u18 => exact fun _ _ _ h => h
                case hw17u18 => rfl
                case hy17u18 => (intro w hSw; (try dsimp only at hSw); go_simp <;> with_reducible rfl)
                try simp only [Act.put, List.setIfInBounds_toArray, List.set_cons_zero, List.set_cons_succ]
                refine wpAnyH_take (i := 18) (oi := ?oi18u19) (v := ?v18u19) ?hi18u19 (by kernel_rfl) (by kernel_rfl) (by kernel_rfl) ?hQ18u19 (Or.inl ⟨?hw18u19, ?hy18u19⟩) hHeld ?rest18u19
                case hi18u19 => (simp only [List.getElem?_toArray, List.getElem?_cons_succ, List.getElem?_cons_zero]; exact rfl)
                case hQ18u19 => exact fun _ _ _ h => h
                case hw18u19 => rfl
                case hy18u19 => (intro w hSw; (try dsimp only at hSw); go_simp <;> with_reducible rfl)
                try simp only [Act.put, List.setIfInBounds_toArray, List.set_cons_zero, List.set_cons_succ]
                refine wpAnyH_take (i := 19) (oi := ?oi19u20) (v := ?v19u20) ?hi19u20 (by kernel_rfl) (by kernel_rfl) (by kernel_rfl) ?hQ19u20 (Or.inl ⟨?hw19u20, ?hy19u20⟩) hHeld ?rest19u20
                case hi19u20 => (simp only [List.getElem?_toArray, List.getElem?_cons_succ, List.getElem?_cons_zero]; exact rfl)
                case hQ19u20 => exact fun _ _ _ h => h
                case hw19u20 => rfl
                case hy19u20 => (intro w hSw; (try dsimp only at hSw); go_simp <;> with_reducible rfl)
                try simp only [Act.put, List.setIfInBounds_toArray, List.set_cons_zero, List.set_cons_succ]
                refine wpAnyH_take (i := 20) (oi := ?oi20u21) (v := ?v20u21) ?hi20u21 (by kernel_rfl) (by kernel_rfl) (by kernel_rfl) ?hQ20u21 (Or.inl ⟨?hw20u21, ?hy20u21⟩) hHeld ?rest20u21
                case hi20u21 => (simp only [List.getElem?_toArray, List.getElem?_cons_succ, List.getElem?_cons_zero]; exact rfl)
                case hQ20u21 => exact fun _ _ _ h => h
                case hw20u21 => rfl
                case hy20u21 => (intro w hSw; (try dsimp only at hSw); go_simp <;> with_reducible rfl)
                try simp only [Act.put, List.setIfInBounds_toArray, List.set_cons_zero, List.set_cons_succ]
                refine wpAnyH_done (by kernel_rfl) ?_ _
                go_wp2
                refine bodyPost_ret (v := .bool true) (by simp [results, Try.results10, go_sem, *]) rfl ?_
                exact ⟨rfl, Hbw.out.trans (Hf.out.mono Hbw.out.size)⟩
end Go.Proofs.Ytlndjooddkjnoaa
