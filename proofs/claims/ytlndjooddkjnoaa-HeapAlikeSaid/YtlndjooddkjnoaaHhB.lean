/- The walk of the live questions of heaps. -/
import Derived.WalkMore
import Derived.Test.YtlndjooddkjnoaaHhA
import Derived.Test.YtlndjooddkjnoaaHV3
import Derived.Test.YtlndjooddkjnoaaB0
set_option linter.unusedVariables false
set_option linter.unusedSimpArgs false
namespace Go.Proofs.Ytlndjooddkjnoaa
open Go.RowKit

theorem okT1 : hT1.ok = true := by kernel_rfl
theorem okT2 : (Tm.i 7).ok = true := by kernel_rfl
theorem okT3 : (Tm.v 1).ok = true := by kernel_rfl
theorem okT4 : (Tm.v 0).ok = true := by kernel_rfl
set_option maxRecDepth 100000 in
set_option maxHeartbeats 8000000 in
theorem head8_any (w : World) : Calls Try.prog 11 #[] w (RetV w (.bool true)) := by
  go_enter Try.func11, Try.ntmps11
  go_upto_region 1 with fail
  go_cut [1, 2, 3, 4] from 27 to 39 (fun v1 v2 v3 v4 wx => ∃ (g d : Nat) (D : Option Addr), v1 = .pointer (some ⟨g, 0, none⟩) ∧ v2 = .int .i64 0 ∧ v3 = .slice D 1 d ∧ v4 = .int .i64 0 ∧ HB wx g hL1 [] 7 ∧ IsI wx D 1 d [1] ∧ Below w.heap.size w wx)
  case first =>
    have hb := Below.refl w.heap.size w
    go_wp2_with (first
      | (go_at_call 15; go_must (refine (new7 _).mono ?_); rintro e wn ⟨rfl, hbn⟩; replace hb := hb.trans (hbn.mono hb.size); clear hbn)
      | (go_at_call 39; go_must (refine (cf8_any _ _ _).mono ?_); rintro e wn ⟨rfl, hbn⟩; replace hb := hb.trans (hbn.mono hb.size); clear hbn)
      | (go_at_call 35; go_must (refine (cv8_any _ _).mono ?_); rintro e wn ⟨rfl, hbn⟩; replace hb := hb.trans (hbn.mono hb.size); clear hbn)
      | (go_at_call 40; go_must (refine (cn8_any _ _).mono ?_); rintro e wn ⟨rfl, hbn⟩; replace hb := hb.trans (hbn.mono hb.size); clear hbn)
      | (go_at_call 19; go_must (refine (put_yes (hPut_any hT1 none none none (some _) 0 0 0 0 0 0 5 5 7 [] [] _ (isC_nil8 _ _) (isC_lit8 (alloc_at rfl) rfl rfl (by omega) (cells_wf8 (by decide))) (isI_nil8 _ _) okT1 (by decide) (by omega) (by omega)) hput1 (by decide)).mono ?_); rintro e wn ⟨A1, c1, D1, d1, rfl, hC1, hI1, hbn⟩; replace hb := (hb.alloc hb.size _).trans (hbn.mono (by have := hb.size; simp; omega)); clear hbn))
    go_meet
    exact ⟨wn.heap.size, d1, D1, rfl, rfl, rfl, rfl, ⟨A1, c1, none, 0, alloc_at rfl, hC1.below (bas _ _), isI_nil8 _ _⟩, hI1.below (bas _ _), hb.alloc hb.size _⟩
  case rest =>
    obtain ⟨g1, e1, D1, rfl, rfl, rfl, rfl, hB1, hI1, hb1⟩ := hcut
    generalize wc = X at *
    go_upto_region 2 with fail
    go_cut [5, 6, 7, 8] from 40 to 49 (fun v1 v2 v3 v4 wx => ∃ (g d : Nat) (D : Option Addr), v1 = .pointer (some ⟨g, 0, none⟩) ∧ v2 = .int .i64 6 ∧ v3 = .slice D 1 d ∧ v4 = .int .i64 0 ∧ HB wx g hL2 [] 7 ∧ IsI wx D 1 d [1] ∧ Below X.heap.size X wx)
    case first =>
      obtain ⟨A1, c1, B1, d1, x1, hC1, hN1⟩ := hB1
      have HN1 := Lib.hid hN1
      have HC1 := Lib.hid hC1
      have HI1 := Lib.hid hI1
      obtain ⟨y0, y1, y2, yl⟩ := open3 x1
      refine wp_region_held_drew (S := fun w' => w'.cell? ⟨g1, 0, none⟩ = some (.slice A1 6 c1) ∧ w'.cell? ⟨g1, 1, none⟩ = some (.slice B1 0 d1) ∧ w'.cell? ⟨g1, 2, none⟩ = some (.int .i64 7)) (by kernel_rfl) ?gs2 ?gr2
      case gs2 => exact ⟨y0, y1, y2⟩
      case gr2 =>
        intro hHeld
        have hS : ∀ w', Below X.heap.size X w' → w'.cell? ⟨g1, 0, none⟩ = some (.slice A1 6 c1) ∧ w'.cell? ⟨g1, 1, none⟩ = some (.slice B1 0 d1) ∧ w'.cell? ⟨g1, 2, none⟩ = some (.int .i64 7) := fun w' hb => ⟨(hb.cell (p := ⟨g1, 0, none⟩) yl).trans y0, (hb.cell (p := ⟨g1, 1, none⟩) yl).trans y1, (hb.cell (p := ⟨g1, 2, none⟩) yl).trans y2⟩
        have HS := Lib.hid hS
        clear hS y0 y1 y2 yl x1 hC1 hN1 hI1
        have HV : Hid (Below X.heap.size X X.drew) := Lib.hid ((Below.refl _ _).drew)
        generalize X.drew = V at *

        refine takeH 0 hHeld ?_
        try simp only [Act.put, List.setIfInBounds_toArray, List.set_cons_zero, List.set_cons_succ]
        refine takeH 3 hHeld ?_
        try simp only [Act.put, List.setIfInBounds_toArray, List.set_cons_zero, List.set_cons_succ]
        refine held_two (i := 1) (j := 10) (oi := ?oi1u3) (oj := ?oi10u3) (by kernel_rfl) ?hi1u3 ?hi10u3 (fun K hK => ?rest1u3) (fun K hK => ?rest10u3)
        case hi1u3 => (simp only [List.getElem?_toArray, List.getElem?_cons_succ, List.getElem?_cons_zero]; exact rfl)
        case hi10u3 => (simp only [List.getElem?_toArray, List.getElem?_cons_succ, List.getElem?_cons_zero]; exact rfl)
        · go_simp
          go_at_call 40
          refine (cn8_any _ _).mono ?_
          rintro e w2 ⟨rfl, hb2⟩
          have H2 := Lib.hid (HV.out.trans (hb2.mono HV.out.size))
          try go_simp
          refine hK _ _ (HS.out _ H2.out) ?_
          clear hK K hHeld
          have hHeld := HS.out _ H2.out
          try simp only [Act.put, List.setIfInBounds_toArray, List.set_cons_zero, List.set_cons_succ]
          refine held_two (i := 2) (j := 10) (oi := ?oi2u4) (oj := ?oi10u4) (by kernel_rfl) ?hi2u4 ?hi10u4 (fun K hK => ?rest2u4) (fun K hK => ?rest10u4)
          case hi2u4 => (simp only [List.getElem?_toArray, List.getElem?_cons_succ, List.getElem?_cons_zero]; exact rfl)
          case hi10u4 => (simp only [List.getElem?_toArray, List.getElem?_cons_succ, List.getElem?_cons_zero]; exact rfl)
          · go_simp
            refine hK _ _ (HS.out ((w2.alloc (.cells #[.int .i64 2, .string ⟨#[]⟩, .int .i64 7] 54))) (H2.out.alloc H2.out.size _)) ?_
            clear hK K hHeld
            have hHeld := HS.out ((w2.alloc (.cells #[.int .i64 2, .string ⟨#[]⟩, .int .i64 7] 54))) (H2.out.alloc H2.out.size _)
            try simp only [Act.put, List.setIfInBounds_toArray, List.set_cons_zero, List.set_cons_succ]
            have H3 := Lib.hid (H2.out.alloc H2.out.size (.cells #[.int .i64 2, .string ⟨#[]⟩, .int .i64 7] 54))
            have HL := Lib.hid (isC_lit8 (n := 1) (l := [⟨2, ⟨#[]⟩, 7⟩]) (alloc_at (w := w2) (o := .cells #[.int .i64 2, .string ⟨#[]⟩, .int .i64 7] 54) rfl) rfl rfl (by omega) (cells_wf8 (by decide)))
            try trivial
            generalize (w2.alloc (.cells #[.int .i64 2, .string ⟨#[]⟩, .int .i64 7] 54)) = w3 at *
            generalize w2.heap.size = gl at *
            refine held_two (i := 4) (j := 10) (oi := ?oi4u5) (oj := ?oi10u5) (by kernel_rfl) ?hi4u5 ?hi10u5 (fun K hK => ?rest4u5) (fun K hK => ?rest10u5)
            case hi4u5 => (simp only [List.getElem?_toArray, List.getElem?_cons_succ, List.getElem?_cons_zero]; exact rfl)
            case hi10u5 => (simp only [List.getElem?_toArray, List.getElem?_cons_succ, List.getElem?_cons_zero]; exact rfl)
            · go_simp
              go_at_call 19
              refine (put_yes (hPut_any (.i 7) A1 B1 D1 (some ⟨gl, 0, none⟩) 6 c1 0 d1 1 e1 1 1 7 hL1 [1] w3 (HC1.out.below H3.out) HL.out (HI1.out.below H3.out) okT2 (by decide) (by omega) (by omega)) hput2 (by decide)).mono ?_
              rintro e w4 ⟨A2, c2, D2, d2, rfl, hC2, hI2, hb4⟩
              have H4 := Lib.hid (H3.out.trans (hb4.mono H3.out.size))
              have HC2 := Lib.hid hC2
              have HI2 := Lib.hid hI2
              clear hC2 hI2
              try go_simp
              refine hK _ _ (HS.out _ H4.out) ?_
              clear hK K hHeld
              have hHeld := HS.out _ H4.out
              try simp only [Act.put, List.setIfInBounds_toArray, List.set_cons_zero, List.set_cons_succ]
              refine takeH 5 hHeld ?_
              try simp only [Act.put, List.setIfInBounds_toArray, List.set_cons_zero, List.set_cons_succ]
              refine takeH 6 hHeld ?_
              try simp only [Act.put, List.setIfInBounds_toArray, List.set_cons_zero, List.set_cons_succ]
              refine takeH 7 hHeld ?_
              try simp only [Act.put, List.setIfInBounds_toArray, List.set_cons_zero, List.set_cons_succ]
              refine takeH 8 hHeld ?_
              try simp only [Act.put, List.setIfInBounds_toArray, List.set_cons_zero, List.set_cons_succ]
              refine takeH 9 hHeld ?_
              try simp only [Act.put, List.setIfInBounds_toArray, List.set_cons_zero, List.set_cons_succ]
              refine held_one (i := 10) (o := ?oi10u11) (by kernel_rfl) ?hi10u11 (fun K hK => ?rest10u11)
              case hi10u11 => (simp only [List.getElem?_toArray, List.getElem?_cons_succ, List.getElem?_cons_zero]; exact rfl)
              go_simp
              refine hK _ _ (HS.out ((w4.alloc Oz)) (H4.out.alloc H4.out.size _)) ?_
              clear hK K hHeld
              have hHeld := HS.out ((w4.alloc Oz)) (H4.out.alloc H4.out.size _)
              try simp only [Act.put, List.setIfInBounds_toArray, List.set_cons_zero, List.set_cons_succ]
              have HO := Lib.hid (H4.out.alloc H4.out.size Oz)
              have HZ := Lib.hid (show (w4.alloc Oz).heap[w4.heap.size]? = some (.cells #[.slice none 0 0, .slice none 0 0, .int .i64 0] 25 (0, 0)) from alloc_at rfl)
              have Hgb : Hid (X.heap.size ≤ w4.heap.size) := Lib.hid H4.out.size
              have HY := HO
              have Hz := HZ
              have HC2 := Lib.hid (HC2.out.below (bas w4 Oz))
              have HI2 := Lib.hid (HI2.out.below (bas w4 Oz))
              generalize w4.alloc Oz = Y at *
              generalize w4.heap.size = gb at *
              obtain ⟨z0, z1, z2, zl, zf0, zf1, zf2⟩ := cells3 Hz.out
              obtain ⟨F, hF, hzF, hkF⟩ := store_heap (A := A2) (n := hL2.length) (c := c2) (B := B1) (m := 0) (d := d1) (r := 7) Hz.out
              have HF := Lib.hid (HY.out.trans (hkF.bel.mono Hgb.out))
              have HC2F := Lib.hid (HC2.out.kq hkF (HC2.out.off_heap (by decide) Hz.out))
              have HI2F := Lib.hid (HI2.out.kq hkF (HI2.out.off_heap (by decide) Hz.out))
              have HzF := Lib.hid hzF
              refine held_one (i := 11) (o := ?oi11u12) (by kernel_rfl) ?hi11u12 (fun K hK => ?rest11u12)
              case hi11u12 => (simp only [List.getElem?_toArray, List.getElem?_cons_succ, List.getElem?_cons_zero]; exact rfl)
              go_simp
              rw [← hF]
              refine hK _ _ (HS.out _ HF.out) ?_
              clear hK K hHeld
              have hHeld := HS.out _ HF.out
              try simp only [Act.put, List.setIfInBounds_toArray, List.set_cons_zero, List.set_cons_succ]
              refine takeH 12 hHeld ?_
              try simp only [Act.put, List.setIfInBounds_toArray, List.set_cons_zero, List.set_cons_succ]
              refine takeH 13 hHeld ?_
              try simp only [Act.put, List.setIfInBounds_toArray, List.set_cons_zero, List.set_cons_succ]
              refine takeH 14 hHeld ?_
              try simp only [Act.put, List.setIfInBounds_toArray, List.set_cons_zero, List.set_cons_succ]
              refine wpAnyH_done (by kernel_rfl) ?_ _
              clear hzF hkF hF z0 z1 z2 zl zf0 zf1 zf2 hHeld
              go_wp2_with fail
              go_meet
              exact ⟨gb, d2, D2, rfl, rfl, rfl, rfl, ⟨A2, c2, B1, d1, HzF.out, HC2F.out, HN1.out.below HF.out⟩, HI2F.out, HF.out⟩
            · go_simp
              refine hK _ _ (HS.out ((w3.alloc Oz)) (H3.out.alloc H3.out.size _)) ?_
              clear hK K hHeld
              have hHeld := HS.out ((w3.alloc Oz)) (H3.out.alloc H3.out.size _)
              try simp only [Act.put, List.setIfInBounds_toArray, List.set_cons_zero, List.set_cons_succ]
              have HO := Lib.hid (H3.out.alloc H3.out.size Oz)
              have HZ := Lib.hid (show (w3.alloc Oz).heap[w3.heap.size]? = some (.cells #[.slice none 0 0, .slice none 0 0, .int .i64 0] 25 (0, 0)) from alloc_at rfl)
              have Hgb : Hid (X.heap.size ≤ w3.heap.size) := Lib.hid H3.out.size
              have HL3 := Lib.hid (HL.out.below (bas w3 Oz))
              generalize w3.alloc Oz = w5 at *
              generalize w3.heap.size = gb at *
              refine held_one (i := 4) (o := ?oi4u16) (by kernel_rfl) ?hi4u16 (fun K hK => ?rest4u16)
              case hi4u16 => (simp only [List.getElem?_toArray, List.getElem?_cons_succ, List.getElem?_cons_zero]; exact rfl)
              go_simp
              go_at_call 19
              refine (put_yes (hPut_any (.i 7) A1 B1 D1 (some ⟨gl, 0, none⟩) 6 c1 0 d1 1 e1 1 1 7 hL1 [1] w5 (HC1.out.below HO.out) HL3.out (HI1.out.below HO.out) okT2 (by decide) (by omega) (by omega)) hput2 (by decide)).mono ?_
              rintro e w4 ⟨A2, c2, D2, d2, rfl, hC2, hI2, hb4⟩
              have H4 := Lib.hid (HO.out.trans (hb4.mono HO.out.size))
              have HC2 := Lib.hid hC2
              have HI2 := Lib.hid hI2
              clear hC2 hI2
              try go_simp
              refine hK _ _ (HS.out _ H4.out) ?_
              clear hK K hHeld
              have hHeld := HS.out _ H4.out
              try simp only [Act.put, List.setIfInBounds_toArray, List.set_cons_zero, List.set_cons_succ]
              refine takeH 5 hHeld ?_
              try simp only [Act.put, List.setIfInBounds_toArray, List.set_cons_zero, List.set_cons_succ]
              refine takeH 6 hHeld ?_
              try simp only [Act.put, List.setIfInBounds_toArray, List.set_cons_zero, List.set_cons_succ]
              refine takeH 7 hHeld ?_
              try simp only [Act.put, List.setIfInBounds_toArray, List.set_cons_zero, List.set_cons_succ]
              refine takeH 8 hHeld ?_
              try simp only [Act.put, List.setIfInBounds_toArray, List.set_cons_zero, List.set_cons_succ]
              refine takeH 9 hHeld ?_
              try simp only [Act.put, List.setIfInBounds_toArray, List.set_cons_zero, List.set_cons_succ]
              have HY := H4
              have Hz := Lib.hid ((hb4.block gb (block_lt HZ.out)).trans HZ.out)
              clear hb4
              generalize w4 = Y at *
              obtain ⟨z0, z1, z2, zl, zf0, zf1, zf2⟩ := cells3 Hz.out
              obtain ⟨F, hF, hzF, hkF⟩ := store_heap (A := A2) (n := hL2.length) (c := c2) (B := B1) (m := 0) (d := d1) (r := 7) Hz.out
              have HF := Lib.hid (HY.out.trans (hkF.bel.mono Hgb.out))
              have HC2F := Lib.hid (HC2.out.kq hkF (HC2.out.off_heap (by decide) Hz.out))
              have HI2F := Lib.hid (HI2.out.kq hkF (HI2.out.off_heap (by decide) Hz.out))
              have HzF := Lib.hid hzF
              refine held_one (i := 11) (o := ?oi11u22) (by kernel_rfl) ?hi11u22 (fun K hK => ?rest11u22)
              case hi11u22 => (simp only [List.getElem?_toArray, List.getElem?_cons_succ, List.getElem?_cons_zero]; exact rfl)
              go_simp
              rw [← hF]
              refine hK _ _ (HS.out _ HF.out) ?_
              clear hK K hHeld
              have hHeld := HS.out _ HF.out
              try simp only [Act.put, List.setIfInBounds_toArray, List.set_cons_zero, List.set_cons_succ]
              refine takeH 12 hHeld ?_
              try simp only [Act.put, List.setIfInBounds_toArray, List.set_cons_zero, List.set_cons_succ]
              refine takeH 13 hHeld ?_
              try simp only [Act.put, List.setIfInBounds_toArray, List.set_cons_zero, List.set_cons_succ]
              refine takeH 14 hHeld ?_
              try simp only [Act.put, List.setIfInBounds_toArray, List.set_cons_zero, List.set_cons_succ]
              refine wpAnyH_done (by kernel_rfl) ?_ _
              clear hzF hkF hF z0 z1 z2 zl zf0 zf1 zf2 hHeld
              go_wp2_with fail
              go_meet
              exact ⟨gb, d2, D2, rfl, rfl, rfl, rfl, ⟨A2, c2, B1, d1, HzF.out, HC2F.out, HN1.out.below HF.out⟩, HI2F.out, HF.out⟩
          · go_simp
            refine hK _ _ (HS.out ((w2.alloc Oz)) (H2.out.alloc H2.out.size _)) ?_
            clear hK K hHeld
            have hHeld := HS.out ((w2.alloc Oz)) (H2.out.alloc H2.out.size _)
            try simp only [Act.put, List.setIfInBounds_toArray, List.set_cons_zero, List.set_cons_succ]
            have HO := Lib.hid (H2.out.alloc H2.out.size Oz)
            have HZ := Lib.hid (show (w2.alloc Oz).heap[w2.heap.size]? = some (.cells #[.slice none 0 0, .slice none 0 0, .int .i64 0] 25 (0, 0)) from alloc_at rfl)
            have Hgb : Hid (X.heap.size ≤ w2.heap.size) := Lib.hid H2.out.size
            clear H2
            have H2 := HO
            clear HO
            generalize w2.heap.size = gb at *
            generalize w2.alloc Oz = w2 at *
            refine held_one (i := 2) (o := ?oi2u26) (by kernel_rfl) ?hi2u26 (fun K hK => ?rest2u26)
            case hi2u26 => (simp only [List.getElem?_toArray, List.getElem?_cons_succ, List.getElem?_cons_zero]; exact rfl)
            go_simp
            refine hK _ _ (HS.out ((w2.alloc (.cells #[.int .i64 2, .string ⟨#[]⟩, .int .i64 7] 54))) (H2.out.alloc H2.out.size _)) ?_
            clear hK K hHeld
            have hHeld := HS.out ((w2.alloc (.cells #[.int .i64 2, .string ⟨#[]⟩, .int .i64 7] 54))) (H2.out.alloc H2.out.size _)
            try simp only [Act.put, List.setIfInBounds_toArray, List.set_cons_zero, List.set_cons_succ]
            have H3 := Lib.hid (H2.out.alloc H2.out.size (.cells #[.int .i64 2, .string ⟨#[]⟩, .int .i64 7] 54))
            have HL := Lib.hid (isC_lit8 (n := 1) (l := [⟨2, ⟨#[]⟩, 7⟩]) (alloc_at (w := w2) (o := .cells #[.int .i64 2, .string ⟨#[]⟩, .int .i64 7] 54) rfl) rfl rfl (by omega) (cells_wf8 (by decide)))
            have HZ3 := Lib.hid ((bas w2 (.cells #[.int .i64 2, .string ⟨#[]⟩, .int .i64 7] 54)).block gb (block_lt HZ.out) |>.trans HZ.out)
            generalize (w2.alloc (.cells #[.int .i64 2, .string ⟨#[]⟩, .int .i64 7] 54)) = w3 at *
            generalize w2.heap.size = gl at *
            refine held_one (i := 4) (o := ?oi4u27) (by kernel_rfl) ?hi4u27 (fun K hK => ?rest4u27)
            case hi4u27 => (simp only [List.getElem?_toArray, List.getElem?_cons_succ, List.getElem?_cons_zero]; exact rfl)
            go_simp
            go_at_call 19
            refine (put_yes (hPut_any (.i 7) A1 B1 D1 (some ⟨gl, 0, none⟩) 6 c1 0 d1 1 e1 1 1 7 hL1 [1] w3 (HC1.out.below H3.out) HL.out (HI1.out.below H3.out) okT2 (by decide) (by omega) (by omega)) hput2 (by decide)).mono ?_
            rintro e w4 ⟨A2, c2, D2, d2, rfl, hC2, hI2, hb4⟩
            have H4 := Lib.hid (H3.out.trans (hb4.mono H3.out.size))
            have HC2 := Lib.hid hC2
            have HI2 := Lib.hid hI2
            clear hC2 hI2
            try go_simp
            refine hK _ _ (HS.out _ H4.out) ?_
            clear hK K hHeld
            have hHeld := HS.out _ H4.out
            try simp only [Act.put, List.setIfInBounds_toArray, List.set_cons_zero, List.set_cons_succ]
            refine takeH 5 hHeld ?_
            try simp only [Act.put, List.setIfInBounds_toArray, List.set_cons_zero, List.set_cons_succ]
            refine takeH 6 hHeld ?_
            try simp only [Act.put, List.setIfInBounds_toArray, List.set_cons_zero, List.set_cons_succ]
            refine takeH 7 hHeld ?_
            try simp only [Act.put, List.setIfInBounds_toArray, List.set_cons_zero, List.set_cons_succ]
            refine takeH 8 hHeld ?_
            try simp only [Act.put, List.setIfInBounds_toArray, List.set_cons_zero, List.set_cons_succ]
            refine takeH 9 hHeld ?_
            try simp only [Act.put, List.setIfInBounds_toArray, List.set_cons_zero, List.set_cons_succ]
            have HY := H4
            have Hz := Lib.hid ((hb4.block gb (block_lt HZ3.out)).trans HZ3.out)
            clear hb4
            generalize w4 = Y at *
            obtain ⟨z0, z1, z2, zl, zf0, zf1, zf2⟩ := cells3 Hz.out
            obtain ⟨F, hF, hzF, hkF⟩ := store_heap (A := A2) (n := hL2.length) (c := c2) (B := B1) (m := 0) (d := d1) (r := 7) Hz.out
            have HF := Lib.hid (HY.out.trans (hkF.bel.mono Hgb.out))
            have HC2F := Lib.hid (HC2.out.kq hkF (HC2.out.off_heap (by decide) Hz.out))
            have HI2F := Lib.hid (HI2.out.kq hkF (HI2.out.off_heap (by decide) Hz.out))
            have HzF := Lib.hid hzF
            refine held_one (i := 11) (o := ?oi11u33) (by kernel_rfl) ?hi11u33 (fun K hK => ?rest11u33)
            case hi11u33 => (simp only [List.getElem?_toArray, List.getElem?_cons_succ, List.getElem?_cons_zero]; exact rfl)
            go_simp
            rw [← hF]
            refine hK _ _ (HS.out _ HF.out) ?_
            clear hK K hHeld
            have hHeld := HS.out _ HF.out
            try simp only [Act.put, List.setIfInBounds_toArray, List.set_cons_zero, List.set_cons_succ]
            refine takeH 12 hHeld ?_
            try simp only [Act.put, List.setIfInBounds_toArray, List.set_cons_zero, List.set_cons_succ]
            refine takeH 13 hHeld ?_
            try simp only [Act.put, List.setIfInBounds_toArray, List.set_cons_zero, List.set_cons_succ]
            refine takeH 14 hHeld ?_
            try simp only [Act.put, List.setIfInBounds_toArray, List.set_cons_zero, List.set_cons_succ]
            refine wpAnyH_done (by kernel_rfl) ?_ _
            clear hzF hkF hF z0 z1 z2 zl zf0 zf1 zf2 hHeld
            go_wp2_with fail
            go_meet
            exact ⟨gb, d2, D2, rfl, rfl, rfl, rfl, ⟨A2, c2, B1, d1, HzF.out, HC2F.out, HN1.out.below HF.out⟩, HI2F.out, HF.out⟩
        · go_simp
          refine hK _ _ (HS.out ((V.alloc Oz)) (HV.out.alloc HV.out.size _)) ?_
          clear hK K hHeld
          have hHeld := HS.out ((V.alloc Oz)) (HV.out.alloc HV.out.size _)
          try simp only [Act.put, List.setIfInBounds_toArray, List.set_cons_zero, List.set_cons_succ]
          have HO := Lib.hid (HV.out.alloc HV.out.size Oz)
          have HZ := Lib.hid (show (V.alloc Oz).heap[V.heap.size]? = some (.cells #[.slice none 0 0, .slice none 0 0, .int .i64 0] 25 (0, 0)) from alloc_at rfl)
          have Hgb : Hid (X.heap.size ≤ V.heap.size) := Lib.hid HV.out.size
          clear HV
          have HV := HO
          clear HO
          generalize V.heap.size = gb at *
          generalize V.alloc Oz = V at *
          refine held_one (i := 1) (o := ?oi1u37) (by kernel_rfl) ?hi1u37 (fun K hK => ?rest1u37)
          case hi1u37 => (simp only [List.getElem?_toArray, List.getElem?_cons_succ, List.getElem?_cons_zero]; exact rfl)
          go_simp
          go_at_call 40
          refine (cn8_any _ _).mono ?_
          rintro e w2 ⟨rfl, hb2⟩
          have H2 := Lib.hid (HV.out.trans (hb2.mono HV.out.size))
          try go_simp
          refine hK _ _ (HS.out _ H2.out) ?_
          clear hK K hHeld
          have hHeld := HS.out _ H2.out
          try simp only [Act.put, List.setIfInBounds_toArray, List.set_cons_zero, List.set_cons_succ]
          have HZ2 := Lib.hid ((hb2.block gb (block_lt HZ.out)).trans HZ.out)
          clear hb2
          refine held_one (i := 2) (o := ?oi2u38) (by kernel_rfl) ?hi2u38 (fun K hK => ?rest2u38)
          case hi2u38 => (simp only [List.getElem?_toArray, List.getElem?_cons_succ, List.getElem?_cons_zero]; exact rfl)
          go_simp
          refine hK _ _ (HS.out ((w2.alloc (.cells #[.int .i64 2, .string ⟨#[]⟩, .int .i64 7] 54))) (H2.out.alloc H2.out.size _)) ?_
          clear hK K hHeld
          have hHeld := HS.out ((w2.alloc (.cells #[.int .i64 2, .string ⟨#[]⟩, .int .i64 7] 54))) (H2.out.alloc H2.out.size _)
          try simp only [Act.put, List.setIfInBounds_toArray, List.set_cons_zero, List.set_cons_succ]
          have H3 := Lib.hid (H2.out.alloc H2.out.size (.cells #[.int .i64 2, .string ⟨#[]⟩, .int .i64 7] 54))
          have HL := Lib.hid (isC_lit8 (n := 1) (l := [⟨2, ⟨#[]⟩, 7⟩]) (alloc_at (w := w2) (o := .cells #[.int .i64 2, .string ⟨#[]⟩, .int .i64 7] 54) rfl) rfl rfl (by omega) (cells_wf8 (by decide)))
          have HZ3 := Lib.hid ((bas w2 (.cells #[.int .i64 2, .string ⟨#[]⟩, .int .i64 7] 54)).block gb (block_lt HZ2.out) |>.trans HZ2.out)
          generalize (w2.alloc (.cells #[.int .i64 2, .string ⟨#[]⟩, .int .i64 7] 54)) = w3 at *
          generalize w2.heap.size = gl at *
          refine held_one (i := 4) (o := ?oi4u39) (by kernel_rfl) ?hi4u39 (fun K hK => ?rest4u39)
          case hi4u39 => (simp only [List.getElem?_toArray, List.getElem?_cons_succ, List.getElem?_cons_zero]; exact rfl)
          go_simp
          go_at_call 19
          refine (put_yes (hPut_any (.i 7) A1 B1 D1 (some ⟨gl, 0, none⟩) 6 c1 0 d1 1 e1 1 1 7 hL1 [1] w3 (HC1.out.below H3.out) HL.out (HI1.out.below H3.out) okT2 (by decide) (by omega) (by omega)) hput2 (by decide)).mono ?_
          rintro e w4 ⟨A2, c2, D2, d2, rfl, hC2, hI2, hb4⟩
          have H4 := Lib.hid (H3.out.trans (hb4.mono H3.out.size))
          have HC2 := Lib.hid hC2
          have HI2 := Lib.hid hI2
          clear hC2 hI2
          try go_simp
          refine hK _ _ (HS.out _ H4.out) ?_
          clear hK K hHeld
          have hHeld := HS.out _ H4.out
          try simp only [Act.put, List.setIfInBounds_toArray, List.set_cons_zero, List.set_cons_succ]
          refine takeH 5 hHeld ?_
          try simp only [Act.put, List.setIfInBounds_toArray, List.set_cons_zero, List.set_cons_succ]
          refine takeH 6 hHeld ?_
          try simp only [Act.put, List.setIfInBounds_toArray, List.set_cons_zero, List.set_cons_succ]
          refine takeH 7 hHeld ?_
          try simp only [Act.put, List.setIfInBounds_toArray, List.set_cons_zero, List.set_cons_succ]
          refine takeH 8 hHeld ?_
          try simp only [Act.put, List.setIfInBounds_toArray, List.set_cons_zero, List.set_cons_succ]
          refine takeH 9 hHeld ?_
          try simp only [Act.put, List.setIfInBounds_toArray, List.set_cons_zero, List.set_cons_succ]
          have HY := H4
          have Hz := Lib.hid ((hb4.block gb (block_lt HZ3.out)).trans HZ3.out)
          clear hb4
          generalize w4 = Y at *
          obtain ⟨z0, z1, z2, zl, zf0, zf1, zf2⟩ := cells3 Hz.out
          obtain ⟨F, hF, hzF, hkF⟩ := store_heap (A := A2) (n := hL2.length) (c := c2) (B := B1) (m := 0) (d := d1) (r := 7) Hz.out
          have HF := Lib.hid (HY.out.trans (hkF.bel.mono Hgb.out))
          have HC2F := Lib.hid (HC2.out.kq hkF (HC2.out.off_heap (by decide) Hz.out))
          have HI2F := Lib.hid (HI2.out.kq hkF (HI2.out.off_heap (by decide) Hz.out))
          have HzF := Lib.hid hzF
          refine held_one (i := 11) (o := ?oi11u45) (by kernel_rfl) ?hi11u45 (fun K hK => ?rest11u45)
          case hi11u45 => (simp only [List.getElem?_toArray, List.getElem?_cons_succ, List.getElem?_cons_zero]; exact rfl)
          go_simp
          rw [← hF]
          refine hK _ _ (HS.out _ HF.out) ?_
          clear hK K hHeld
          have hHeld := HS.out _ HF.out
          try simp only [Act.put, List.setIfInBounds_toArray, List.set_cons_zero, List.set_cons_succ]
          refine takeH 12 hHeld ?_
          try simp only [Act.put, List.setIfInBounds_toArray, List.set_cons_zero, List.set_cons_succ]
          refine takeH 13 hHeld ?_
          try simp only [Act.put, List.setIfInBounds_toArray, List.set_cons_zero, List.set_cons_succ]
          refine takeH 14 hHeld ?_
          try simp only [Act.put, List.setIfInBounds_toArray, List.set_cons_zero, List.set_cons_succ]
          refine wpAnyH_done (by kernel_rfl) ?_ _
          clear hzF hkF hF z0 z1 z2 zl zf0 zf1 zf2 hHeld
          go_wp2_with fail
          go_meet
          exact ⟨gb, d2, D2, rfl, rfl, rfl, rfl, ⟨A2, c2, B1, d1, HzF.out, HC2F.out, HN1.out.below HF.out⟩, HI2F.out, HF.out⟩
    case rest =>
      obtain ⟨g2, e2, D2, rfl, rfl, rfl, rfl, hB2, hI2, hbn⟩ := hcut
      replace hb1 := hb1.trans (hbn.mono hb1.size)
      replace hB1 := hB1.below hbn
      replace hI1 := hI1.below hbn
      clear hbn
      generalize wc = X at *
      go_upto_region 3 with fail
      go_cut [9, 10, 11, 12] from 50 to 59 (fun _ _ _ v4 wx => v4 = .int .i64 80 ∧ Below X.heap.size X wx)
      case first =>
        obtain ⟨A1, c1, B1, d1, x1, hC1, hN1⟩ := hB2
        have HN1 := Lib.hid hN1
        have HC1 := Lib.hid hC1
        obtain ⟨D1', e1', hDD⟩ : ∃ D' e', IsI X D' 1 e' [1] ∧ D' = D2 ∧ e' = e2 := ⟨D2, e2, hI2, rfl, rfl⟩
        have HI1 := Lib.hid hI2
        obtain ⟨y0, y1, y2, yl⟩ := open3 x1
        refine wp_region_held_drew (S := fun w' => w'.cell? ⟨g2, 0, none⟩ = some (.slice A1 7 c1) ∧ w'.cell? ⟨g2, 1, none⟩ = some (.slice B1 0 d1) ∧ w'.cell? ⟨g2, 2, none⟩ = some (.int .i64 7)) (by kernel_rfl) ?gs3 ?gr3
        case gs3 => exact ⟨y0, y1, y2⟩
        case gr3 =>
          intro hHeld
          have hS : ∀ w', Below X.heap.size X w' → w'.cell? ⟨g2, 0, none⟩ = some (.slice A1 7 c1) ∧ w'.cell? ⟨g2, 1, none⟩ = some (.slice B1 0 d1) ∧ w'.cell? ⟨g2, 2, none⟩ = some (.int .i64 7) := fun w' hb => ⟨(hb.cell (p := ⟨g2, 0, none⟩) yl).trans y0, (hb.cell (p := ⟨g2, 1, none⟩) yl).trans y1, (hb.cell (p := ⟨g2, 2, none⟩) yl).trans y2⟩
          have HS := Lib.hid hS
          clear hS y0 y1 y2 yl x1 hC1 hN1 hI1 hI2 hB1 hDD
          have HV : Hid (Below X.heap.size X X.drew) := Lib.hid ((Below.refl _ _).drew)
          generalize X.drew = V at *

          refine takeH 0 hHeld ?_
          try simp only [Act.put, List.setIfInBounds_toArray, List.set_cons_zero, List.set_cons_succ]
          refine takeH 3 hHeld ?_
          try simp only [Act.put, List.setIfInBounds_toArray, List.set_cons_zero, List.set_cons_succ]
          refine held_two (i := 1) (j := 10) (oi := ?oi1u51) (oj := ?oi10u51) (by kernel_rfl) ?hi1u51 ?hi10u51 (fun K hK => ?rest1u51) (fun K hK => ?rest10u51)
          case hi1u51 => (simp only [List.getElem?_toArray, List.getElem?_cons_succ, List.getElem?_cons_zero]; exact rfl)
          case hi10u51 => (simp only [List.getElem?_toArray, List.getElem?_cons_succ, List.getElem?_cons_zero]; exact rfl)
          · go_simp
            go_at_call 35
            refine (cv8_any _ _).mono ?_
            rintro e w2 ⟨rfl, hb2⟩
            have H2 := Lib.hid (HV.out.trans (hb2.mono HV.out.size))
            try go_simp
            refine hK _ _ (HS.out _ H2.out) ?_
            clear hK K hHeld
            have hHeld := HS.out _ H2.out
            try simp only [Act.put, List.setIfInBounds_toArray, List.set_cons_zero, List.set_cons_succ]
            refine held_two (i := 2) (j := 10) (oi := ?oi2u52) (oj := ?oi10u52) (by kernel_rfl) ?hi2u52 ?hi10u52 (fun K hK => ?rest2u52) (fun K hK => ?rest10u52)
            case hi2u52 => (simp only [List.getElem?_toArray, List.getElem?_cons_succ, List.getElem?_cons_zero]; exact rfl)
            case hi10u52 => (simp only [List.getElem?_toArray, List.getElem?_cons_succ, List.getElem?_cons_zero]; exact rfl)
            · go_simp
              refine hK _ _ (HS.out ((w2.alloc (.cells #[.int .i64 1, .string ⟨#[]⟩, .int .i64 1] 54))) (H2.out.alloc H2.out.size _)) ?_
              clear hK K hHeld
              have hHeld := HS.out ((w2.alloc (.cells #[.int .i64 1, .string ⟨#[]⟩, .int .i64 1] 54))) (H2.out.alloc H2.out.size _)
              try simp only [Act.put, List.setIfInBounds_toArray, List.set_cons_zero, List.set_cons_succ]
              have H3 := Lib.hid (H2.out.alloc H2.out.size (.cells #[.int .i64 1, .string ⟨#[]⟩, .int .i64 1] 54))
              have HL := Lib.hid (isC_lit8 (n := 1) (l := [⟨1, ⟨#[]⟩, 1⟩]) (alloc_at (w := w2) (o := .cells #[.int .i64 1, .string ⟨#[]⟩, .int .i64 1] 54) rfl) rfl rfl (by omega) (cells_wf8 (by decide)))
              try trivial
              generalize (w2.alloc (.cells #[.int .i64 1, .string ⟨#[]⟩, .int .i64 1] 54)) = w3 at *
              generalize w2.heap.size = gl at *
              refine held_two (i := 4) (j := 10) (oi := ?oi4u53) (oj := ?oi10u53) (by kernel_rfl) ?hi4u53 ?hi10u53 (fun K hK => ?rest4u53) (fun K hK => ?rest10u53)
              case hi4u53 => (simp only [List.getElem?_toArray, List.getElem?_cons_succ, List.getElem?_cons_zero]; exact rfl)
              case hi10u53 => (simp only [List.getElem?_toArray, List.getElem?_cons_succ, List.getElem?_cons_zero]; exact rfl)
              · go_simp
                go_at_call 19
                refine (put_no (hPut_any (.v 1) A1 B1 D2 (some ⟨gl, 0, none⟩) 7 c1 0 d1 1 e2 1 1 7 hL2 [1] w3 (HC1.out.below H3.out) HL.out (HI1.out.below H3.out) okT3 (by decide) (by omega) (by omega)) (by rw [hput3]; decide)).mono ?_
                rintro e w4 ⟨rfl, hb4⟩
                have H4 := Lib.hid (H3.out.trans (hb4.mono H3.out.size))
                try trivial
                try go_simp
                refine hK _ _ (HS.out _ H4.out) ?_
                clear hK K hHeld
                have hHeld := HS.out _ H4.out
                try simp only [Act.put, List.setIfInBounds_toArray, List.set_cons_zero, List.set_cons_succ]
                refine takeH 5 hHeld ?_
                try simp only [Act.put, List.setIfInBounds_toArray, List.set_cons_zero, List.set_cons_succ]
                refine takeH 6 hHeld ?_
                try simp only [Act.put, List.setIfInBounds_toArray, List.set_cons_zero, List.set_cons_succ]
                refine takeH 7 hHeld ?_
                try simp only [Act.put, List.setIfInBounds_toArray, List.set_cons_zero, List.set_cons_succ]
                refine takeH 8 hHeld ?_
                try simp only [Act.put, List.setIfInBounds_toArray, List.set_cons_zero, List.set_cons_succ]
                refine takeH 9 hHeld ?_
                try simp only [Act.put, List.setIfInBounds_toArray, List.set_cons_zero, List.set_cons_succ]
                refine held_one (i := 10) (o := ?oi10u59) (by kernel_rfl) ?hi10u59 (fun K hK => ?rest10u59)
                case hi10u59 => (simp only [List.getElem?_toArray, List.getElem?_cons_succ, List.getElem?_cons_zero]; exact rfl)
                go_simp
                refine hK _ _ (HS.out ((w4.alloc Oz)) (H4.out.alloc H4.out.size _)) ?_
                clear hK K hHeld
                have hHeld := HS.out ((w4.alloc Oz)) (H4.out.alloc H4.out.size _)
                try simp only [Act.put, List.setIfInBounds_toArray, List.set_cons_zero, List.set_cons_succ]
                have HO := Lib.hid (H4.out.alloc H4.out.size Oz)
                have HZ := Lib.hid (show (w4.alloc Oz).heap[w4.heap.size]? = some (.cells #[.slice none 0 0, .slice none 0 0, .int .i64 0] 25 (0, 0)) from alloc_at rfl)
                have Hgb : Hid (X.heap.size ≤ w4.heap.size) := Lib.hid H4.out.size
                have HY := HO
                have Hz := HZ
                try trivial
                generalize w4.alloc Oz = Y at *
                generalize w4.heap.size = gb at *
                obtain ⟨z0, z1, z2, zl, zf0, zf1, zf2⟩ := cells3 Hz.out
                obtain ⟨F, hF, hzF, hkF⟩ := store_heap (A := A1) (n := 7) (c := c1) (B := B1) (m := 0) (d := d1) (r := 7) Hz.out
                have HF := Lib.hid (HY.out.trans (hkF.bel.mono Hgb.out))
                try trivial
                have HzF := Lib.hid hzF
                refine held_one (i := 11) (o := ?oi11u60) (by kernel_rfl) ?hi11u60 (fun K hK => ?rest11u60)
                case hi11u60 => (simp only [List.getElem?_toArray, List.getElem?_cons_succ, List.getElem?_cons_zero]; exact rfl)
                go_simp
                rw [← hF]
                refine hK _ _ (HS.out _ HF.out) ?_
                clear hK K hHeld
                have hHeld := HS.out _ HF.out
                try simp only [Act.put, List.setIfInBounds_toArray, List.set_cons_zero, List.set_cons_succ]
                refine takeH 12 hHeld ?_
                try simp only [Act.put, List.setIfInBounds_toArray, List.set_cons_zero, List.set_cons_succ]
                refine takeH 13 hHeld ?_
                try simp only [Act.put, List.setIfInBounds_toArray, List.set_cons_zero, List.set_cons_succ]
                refine takeH 14 hHeld ?_
                try simp only [Act.put, List.setIfInBounds_toArray, List.set_cons_zero, List.set_cons_succ]
                refine wpAnyH_done (by kernel_rfl) ?_ _
                clear hzF hkF hF z0 z1 z2 zl zf0 zf1 zf2 hHeld
                go_wp2_with fail
                go_meet
                exact ⟨rfl, HF.out⟩
              · go_simp
                refine hK _ _ (HS.out ((w3.alloc Oz)) (H3.out.alloc H3.out.size _)) ?_
                clear hK K hHeld
                have hHeld := HS.out ((w3.alloc Oz)) (H3.out.alloc H3.out.size _)
                try simp only [Act.put, List.setIfInBounds_toArray, List.set_cons_zero, List.set_cons_succ]
                have HO := Lib.hid (H3.out.alloc H3.out.size Oz)
                have HZ := Lib.hid (show (w3.alloc Oz).heap[w3.heap.size]? = some (.cells #[.slice none 0 0, .slice none 0 0, .int .i64 0] 25 (0, 0)) from alloc_at rfl)
                have Hgb : Hid (X.heap.size ≤ w3.heap.size) := Lib.hid H3.out.size
                have HL3 := Lib.hid (HL.out.below (bas w3 Oz))
                generalize w3.alloc Oz = w5 at *
                generalize w3.heap.size = gb at *
                refine held_one (i := 4) (o := ?oi4u64) (by kernel_rfl) ?hi4u64 (fun K hK => ?rest4u64)
                case hi4u64 => (simp only [List.getElem?_toArray, List.getElem?_cons_succ, List.getElem?_cons_zero]; exact rfl)
                go_simp
                go_at_call 19
                refine (put_no (hPut_any (.v 1) A1 B1 D2 (some ⟨gl, 0, none⟩) 7 c1 0 d1 1 e2 1 1 7 hL2 [1] w5 (HC1.out.below HO.out) HL3.out (HI1.out.below HO.out) okT3 (by decide) (by omega) (by omega)) (by rw [hput3]; decide)).mono ?_
                rintro e w4 ⟨rfl, hb4⟩
                have H4 := Lib.hid (HO.out.trans (hb4.mono HO.out.size))
                try trivial
                try go_simp
                refine hK _ _ (HS.out _ H4.out) ?_
                clear hK K hHeld
                have hHeld := HS.out _ H4.out
                try simp only [Act.put, List.setIfInBounds_toArray, List.set_cons_zero, List.set_cons_succ]
                refine takeH 5 hHeld ?_
                try simp only [Act.put, List.setIfInBounds_toArray, List.set_cons_zero, List.set_cons_succ]
                refine takeH 6 hHeld ?_
                try simp only [Act.put, List.setIfInBounds_toArray, List.set_cons_zero, List.set_cons_succ]
                refine takeH 7 hHeld ?_
                try simp only [Act.put, List.setIfInBounds_toArray, List.set_cons_zero, List.set_cons_succ]
                refine takeH 8 hHeld ?_
                try simp only [Act.put, List.setIfInBounds_toArray, List.set_cons_zero, List.set_cons_succ]
                refine takeH 9 hHeld ?_
                try simp only [Act.put, List.setIfInBounds_toArray, List.set_cons_zero, List.set_cons_succ]
                have HY := H4
                have Hz := Lib.hid ((hb4.block gb (block_lt HZ.out)).trans HZ.out)
                clear hb4
                generalize w4 = Y at *
                obtain ⟨z0, z1, z2, zl, zf0, zf1, zf2⟩ := cells3 Hz.out
                obtain ⟨F, hF, hzF, hkF⟩ := store_heap (A := A1) (n := 7) (c := c1) (B := B1) (m := 0) (d := d1) (r := 7) Hz.out
                have HF := Lib.hid (HY.out.trans (hkF.bel.mono Hgb.out))
                try trivial
                have HzF := Lib.hid hzF
                refine held_one (i := 11) (o := ?oi11u70) (by kernel_rfl) ?hi11u70 (fun K hK => ?rest11u70)
                case hi11u70 => (simp only [List.getElem?_toArray, List.getElem?_cons_succ, List.getElem?_cons_zero]; exact rfl)
                go_simp
                rw [← hF]
                refine hK _ _ (HS.out _ HF.out) ?_
                clear hK K hHeld
                have hHeld := HS.out _ HF.out
                try simp only [Act.put, List.setIfInBounds_toArray, List.set_cons_zero, List.set_cons_succ]
                refine takeH 12 hHeld ?_
                try simp only [Act.put, List.setIfInBounds_toArray, List.set_cons_zero, List.set_cons_succ]
                refine takeH 13 hHeld ?_
                try simp only [Act.put, List.setIfInBounds_toArray, List.set_cons_zero, List.set_cons_succ]
                refine takeH 14 hHeld ?_
                try simp only [Act.put, List.setIfInBounds_toArray, List.set_cons_zero, List.set_cons_succ]
                refine wpAnyH_done (by kernel_rfl) ?_ _
                clear hzF hkF hF z0 z1 z2 zl zf0 zf1 zf2 hHeld
                go_wp2_with fail
                go_meet
                exact ⟨rfl, HF.out⟩
            · go_simp
              refine hK _ _ (HS.out ((w2.alloc Oz)) (H2.out.alloc H2.out.size _)) ?_
              clear hK K hHeld
              have hHeld := HS.out ((w2.alloc Oz)) (H2.out.alloc H2.out.size _)
              try simp only [Act.put, List.setIfInBounds_toArray, List.set_cons_zero, List.set_cons_succ]
              have HO := Lib.hid (H2.out.alloc H2.out.size Oz)
              have HZ := Lib.hid (show (w2.alloc Oz).heap[w2.heap.size]? = some (.cells #[.slice none 0 0, .slice none 0 0, .int .i64 0] 25 (0, 0)) from alloc_at rfl)
              have Hgb : Hid (X.heap.size ≤ w2.heap.size) := Lib.hid H2.out.size
              clear H2
              have H2 := HO
              clear HO
              generalize w2.heap.size = gb at *
              generalize w2.alloc Oz = w2 at *
              refine held_one (i := 2) (o := ?oi2u74) (by kernel_rfl) ?hi2u74 (fun K hK => ?rest2u74)
              case hi2u74 => (simp only [List.getElem?_toArray, List.getElem?_cons_succ, List.getElem?_cons_zero]; exact rfl)
              go_simp
              refine hK _ _ (HS.out ((w2.alloc (.cells #[.int .i64 1, .string ⟨#[]⟩, .int .i64 1] 54))) (H2.out.alloc H2.out.size _)) ?_
              clear hK K hHeld
              have hHeld := HS.out ((w2.alloc (.cells #[.int .i64 1, .string ⟨#[]⟩, .int .i64 1] 54))) (H2.out.alloc H2.out.size _)
              try simp only [Act.put, List.setIfInBounds_toArray, List.set_cons_zero, List.set_cons_succ]
              have H3 := Lib.hid (H2.out.alloc H2.out.size (.cells #[.int .i64 1, .string ⟨#[]⟩, .int .i64 1] 54))
              have HL := Lib.hid (isC_lit8 (n := 1) (l := [⟨1, ⟨#[]⟩, 1⟩]) (alloc_at (w := w2) (o := .cells #[.int .i64 1, .string ⟨#[]⟩, .int .i64 1] 54) rfl) rfl rfl (by omega) (cells_wf8 (by decide)))
              have HZ3 := Lib.hid ((bas w2 (.cells #[.int .i64 1, .string ⟨#[]⟩, .int .i64 1] 54)).block gb (block_lt HZ.out) |>.trans HZ.out)
              generalize (w2.alloc (.cells #[.int .i64 1, .string ⟨#[]⟩, .int .i64 1] 54)) = w3 at *
              generalize w2.heap.size = gl at *
              refine held_one (i := 4) (o := ?oi4u75) (by kernel_rfl) ?hi4u75 (fun K hK => ?rest4u75)
              case hi4u75 => (simp only [List.getElem?_toArray, List.getElem?_cons_succ, List.getElem?_cons_zero]; exact rfl)
              go_simp
              go_at_call 19
              refine (put_no (hPut_any (.v 1) A1 B1 D2 (some ⟨gl, 0, none⟩) 7 c1 0 d1 1 e2 1 1 7 hL2 [1] w3 (HC1.out.below H3.out) HL.out (HI1.out.below H3.out) okT3 (by decide) (by omega) (by omega)) (by rw [hput3]; decide)).mono ?_
              rintro e w4 ⟨rfl, hb4⟩
              have H4 := Lib.hid (H3.out.trans (hb4.mono H3.out.size))
              try trivial
              try go_simp
              refine hK _ _ (HS.out _ H4.out) ?_
              clear hK K hHeld
              have hHeld := HS.out _ H4.out
              try simp only [Act.put, List.setIfInBounds_toArray, List.set_cons_zero, List.set_cons_succ]
              refine takeH 5 hHeld ?_
              try simp only [Act.put, List.setIfInBounds_toArray, List.set_cons_zero, List.set_cons_succ]
              refine takeH 6 hHeld ?_
              try simp only [Act.put, List.setIfInBounds_toArray, List.set_cons_zero, List.set_cons_succ]
              refine takeH 7 hHeld ?_
              try simp only [Act.put, List.setIfInBounds_toArray, List.set_cons_zero, List.set_cons_succ]
              refine takeH 8 hHeld ?_
              try simp only [Act.put, List.setIfInBounds_toArray, List.set_cons_zero, List.set_cons_succ]
              refine takeH 9 hHeld ?_
              try simp only [Act.put, List.setIfInBounds_toArray, List.set_cons_zero, List.set_cons_succ]
              have HY := H4
              have Hz := Lib.hid ((hb4.block gb (block_lt HZ3.out)).trans HZ3.out)
              clear hb4
              generalize w4 = Y at *
              obtain ⟨z0, z1, z2, zl, zf0, zf1, zf2⟩ := cells3 Hz.out
              obtain ⟨F, hF, hzF, hkF⟩ := store_heap (A := A1) (n := 7) (c := c1) (B := B1) (m := 0) (d := d1) (r := 7) Hz.out
              have HF := Lib.hid (HY.out.trans (hkF.bel.mono Hgb.out))
              try trivial
              have HzF := Lib.hid hzF
              refine held_one (i := 11) (o := ?oi11u81) (by kernel_rfl) ?hi11u81 (fun K hK => ?rest11u81)
              case hi11u81 => (simp only [List.getElem?_toArray, List.getElem?_cons_succ, List.getElem?_cons_zero]; exact rfl)
              go_simp
              rw [← hF]
              refine hK _ _ (HS.out _ HF.out) ?_
              clear hK K hHeld
              have hHeld := HS.out _ HF.out
              try simp only [Act.put, List.setIfInBounds_toArray, List.set_cons_zero, List.set_cons_succ]
              refine takeH 12 hHeld ?_
              try simp only [Act.put, List.setIfInBounds_toArray, List.set_cons_zero, List.set_cons_succ]
              refine takeH 13 hHeld ?_
              try simp only [Act.put, List.setIfInBounds_toArray, List.set_cons_zero, List.set_cons_succ]
              refine takeH 14 hHeld ?_
              try simp only [Act.put, List.setIfInBounds_toArray, List.set_cons_zero, List.set_cons_succ]
              refine wpAnyH_done (by kernel_rfl) ?_ _
              clear hzF hkF hF z0 z1 z2 zl zf0 zf1 zf2 hHeld
              go_wp2_with fail
              go_meet
              exact ⟨rfl, HF.out⟩
          · go_simp
            refine hK _ _ (HS.out ((V.alloc Oz)) (HV.out.alloc HV.out.size _)) ?_
            clear hK K hHeld
            have hHeld := HS.out ((V.alloc Oz)) (HV.out.alloc HV.out.size _)
            try simp only [Act.put, List.setIfInBounds_toArray, List.set_cons_zero, List.set_cons_succ]
            have HO := Lib.hid (HV.out.alloc HV.out.size Oz)
            have HZ := Lib.hid (show (V.alloc Oz).heap[V.heap.size]? = some (.cells #[.slice none 0 0, .slice none 0 0, .int .i64 0] 25 (0, 0)) from alloc_at rfl)
            have Hgb : Hid (X.heap.size ≤ V.heap.size) := Lib.hid HV.out.size
            clear HV
            have HV := HO
            clear HO
            generalize V.heap.size = gb at *
            generalize V.alloc Oz = V at *
            refine held_one (i := 1) (o := ?oi1u85) (by kernel_rfl) ?hi1u85 (fun K hK => ?rest1u85)
            case hi1u85 => (simp only [List.getElem?_toArray, List.getElem?_cons_succ, List.getElem?_cons_zero]; exact rfl)
            go_simp
            go_at_call 35
            refine (cv8_any _ _).mono ?_
            rintro e w2 ⟨rfl, hb2⟩
            have H2 := Lib.hid (HV.out.trans (hb2.mono HV.out.size))
            try go_simp
            refine hK _ _ (HS.out _ H2.out) ?_
            clear hK K hHeld
            have hHeld := HS.out _ H2.out
            try simp only [Act.put, List.setIfInBounds_toArray, List.set_cons_zero, List.set_cons_succ]
            have HZ2 := Lib.hid ((hb2.block gb (block_lt HZ.out)).trans HZ.out)
            clear hb2
            refine held_one (i := 2) (o := ?oi2u86) (by kernel_rfl) ?hi2u86 (fun K hK => ?rest2u86)
            case hi2u86 => (simp only [List.getElem?_toArray, List.getElem?_cons_succ, List.getElem?_cons_zero]; exact rfl)
            go_simp
            refine hK _ _ (HS.out ((w2.alloc (.cells #[.int .i64 1, .string ⟨#[]⟩, .int .i64 1] 54))) (H2.out.alloc H2.out.size _)) ?_
            clear hK K hHeld
            have hHeld := HS.out ((w2.alloc (.cells #[.int .i64 1, .string ⟨#[]⟩, .int .i64 1] 54))) (H2.out.alloc H2.out.size _)
            try simp only [Act.put, List.setIfInBounds_toArray, List.set_cons_zero, List.set_cons_succ]
            have H3 := Lib.hid (H2.out.alloc H2.out.size (.cells #[.int .i64 1, .string ⟨#[]⟩, .int .i64 1] 54))
            have HL := Lib.hid (isC_lit8 (n := 1) (l := [⟨1, ⟨#[]⟩, 1⟩]) (alloc_at (w := w2) (o := .cells #[.int .i64 1, .string ⟨#[]⟩, .int .i64 1] 54) rfl) rfl rfl (by omega) (cells_wf8 (by decide)))
            have HZ3 := Lib.hid ((bas w2 (.cells #[.int .i64 1, .string ⟨#[]⟩, .int .i64 1] 54)).block gb (block_lt HZ2.out) |>.trans HZ2.out)
            generalize (w2.alloc (.cells #[.int .i64 1, .string ⟨#[]⟩, .int .i64 1] 54)) = w3 at *
            generalize w2.heap.size = gl at *
            refine held_one (i := 4) (o := ?oi4u87) (by kernel_rfl) ?hi4u87 (fun K hK => ?rest4u87)
            case hi4u87 => (simp only [List.getElem?_toArray, List.getElem?_cons_succ, List.getElem?_cons_zero]; exact rfl)
            go_simp
            go_at_call 19
            refine (put_no (hPut_any (.v 1) A1 B1 D2 (some ⟨gl, 0, none⟩) 7 c1 0 d1 1 e2 1 1 7 hL2 [1] w3 (HC1.out.below H3.out) HL.out (HI1.out.below H3.out) okT3 (by decide) (by omega) (by omega)) (by rw [hput3]; decide)).mono ?_
            rintro e w4 ⟨rfl, hb4⟩
            have H4 := Lib.hid (H3.out.trans (hb4.mono H3.out.size))
            try trivial
            try go_simp
            refine hK _ _ (HS.out _ H4.out) ?_
            clear hK K hHeld
            have hHeld := HS.out _ H4.out
            try simp only [Act.put, List.setIfInBounds_toArray, List.set_cons_zero, List.set_cons_succ]
            refine takeH 5 hHeld ?_
            try simp only [Act.put, List.setIfInBounds_toArray, List.set_cons_zero, List.set_cons_succ]
            refine takeH 6 hHeld ?_
            try simp only [Act.put, List.setIfInBounds_toArray, List.set_cons_zero, List.set_cons_succ]
            refine takeH 7 hHeld ?_
            try simp only [Act.put, List.setIfInBounds_toArray, List.set_cons_zero, List.set_cons_succ]
            refine takeH 8 hHeld ?_
            try simp only [Act.put, List.setIfInBounds_toArray, List.set_cons_zero, List.set_cons_succ]
            refine takeH 9 hHeld ?_
            try simp only [Act.put, List.setIfInBounds_toArray, List.set_cons_zero, List.set_cons_succ]
            have HY := H4
            have Hz := Lib.hid ((hb4.block gb (block_lt HZ3.out)).trans HZ3.out)
            clear hb4
            generalize w4 = Y at *
            obtain ⟨z0, z1, z2, zl, zf0, zf1, zf2⟩ := cells3 Hz.out
            obtain ⟨F, hF, hzF, hkF⟩ := store_heap (A := A1) (n := 7) (c := c1) (B := B1) (m := 0) (d := d1) (r := 7) Hz.out
            have HF := Lib.hid (HY.out.trans (hkF.bel.mono Hgb.out))
            try trivial
            have HzF := Lib.hid hzF
            refine held_one (i := 11) (o := ?oi11u93) (by kernel_rfl) ?hi11u93 (fun K hK => ?rest11u93)
            case hi11u93 => (simp only [List.getElem?_toArray, List.getElem?_cons_succ, List.getElem?_cons_zero]; exact rfl)
            go_simp
            rw [← hF]
            refine hK _ _ (HS.out _ HF.out) ?_
            clear hK K hHeld
            have hHeld := HS.out _ HF.out
            try simp only [Act.put, List.setIfInBounds_toArray, List.set_cons_zero, List.set_cons_succ]
            refine takeH 12 hHeld ?_
            try simp only [Act.put, List.setIfInBounds_toArray, List.set_cons_zero, List.set_cons_succ]
            refine takeH 13 hHeld ?_
            try simp only [Act.put, List.setIfInBounds_toArray, List.set_cons_zero, List.set_cons_succ]
            refine takeH 14 hHeld ?_
            try simp only [Act.put, List.setIfInBounds_toArray, List.set_cons_zero, List.set_cons_succ]
            refine wpAnyH_done (by kernel_rfl) ?_ _
            clear hzF hkF hF z0 z1 z2 zl zf0 zf1 zf2 hHeld
            go_wp2_with fail
            go_meet
            exact ⟨rfl, HF.out⟩
      case rest =>
        obtain ⟨rfl, hbn⟩ := hcut
        replace hb1 := hb1.trans (hbn.mono hb1.size)
        replace hB1 := hB1.below hbn
        replace hI1 := hI1.below hbn
        replace hB2 := hB2.below hbn
        replace hI2 := hI2.below hbn
        clear hbn
        generalize wc = X at *
        go_upto_region 4 with fail
        go_cut [13, 14, 15, 16] from 60 to 69 (fun _ v2 _ v4 wx => v2 = .int .i64 1 ∧ v4 = .int .i64 0 ∧ Below X.heap.size X wx)
        case first =>
          obtain ⟨A1, c1, B1, d1, x1, hC1, hN1⟩ := hB2
          have HN1 := Lib.hid hN1
          have HC1 := Lib.hid hC1
          have HI1 := Lib.hid hI2
          obtain ⟨y0, y1, y2, yl⟩ := open3 x1
          refine wp_region_held_drew (S := fun w' => w'.cell? ⟨g2, 0, none⟩ = some (.slice A1 7 c1) ∧ w'.cell? ⟨g2, 1, none⟩ = some (.slice B1 0 d1) ∧ w'.cell? ⟨g2, 2, none⟩ = some (.int .i64 7)) (by kernel_rfl) ?gs4 ?gr4
          case gs4 => exact ⟨y0, y1, y2⟩
          case gr4 =>
            intro hHeld
            have hS : ∀ w', Below X.heap.size X w' → w'.cell? ⟨g2, 0, none⟩ = some (.slice A1 7 c1) ∧ w'.cell? ⟨g2, 1, none⟩ = some (.slice B1 0 d1) ∧ w'.cell? ⟨g2, 2, none⟩ = some (.int .i64 7) := fun w' hb => ⟨(hb.cell (p := ⟨g2, 0, none⟩) yl).trans y0, (hb.cell (p := ⟨g2, 1, none⟩) yl).trans y1, (hb.cell (p := ⟨g2, 2, none⟩) yl).trans y2⟩
            have HS := Lib.hid hS
            clear hS y0 y1 y2 yl x1 hC1 hN1 hI1 hI2 hB1
            have HV : Hid (Below X.heap.size X X.drew) := Lib.hid ((Below.refl _ _).drew)
            generalize X.drew = V at *

            refine takeH 0 hHeld ?_
            try simp only [Act.put, List.setIfInBounds_toArray, List.set_cons_zero, List.set_cons_succ]
            refine takeH 3 hHeld ?_
            try simp only [Act.put, List.setIfInBounds_toArray, List.set_cons_zero, List.set_cons_succ]
            refine held_two (i := 1) (j := 10) (oi := ?oi1u99) (oj := ?oi10u99) (by kernel_rfl) ?hi1u99 ?hi10u99 (fun K hK => ?rest1u99) (fun K hK => ?rest10u99)
            case hi1u99 => (simp only [List.getElem?_toArray, List.getElem?_cons_succ, List.getElem?_cons_zero]; exact rfl)
            case hi10u99 => (simp only [List.getElem?_toArray, List.getElem?_cons_succ, List.getElem?_cons_zero]; exact rfl)
            · go_simp
              go_at_call 35
              refine (cv8_any _ _).mono ?_
              rintro e w2 ⟨rfl, hb2⟩
              have H2 := Lib.hid (HV.out.trans (hb2.mono HV.out.size))
              try go_simp
              refine hK _ _ (HS.out _ H2.out) ?_
              clear hK K hHeld
              have hHeld := HS.out _ H2.out
              try simp only [Act.put, List.setIfInBounds_toArray, List.set_cons_zero, List.set_cons_succ]
              refine held_two (i := 2) (j := 10) (oi := ?oi2u100) (oj := ?oi10u100) (by kernel_rfl) ?hi2u100 ?hi10u100 (fun K hK => ?rest2u100) (fun K hK => ?rest10u100)
              case hi2u100 => (simp only [List.getElem?_toArray, List.getElem?_cons_succ, List.getElem?_cons_zero]; exact rfl)
              case hi10u100 => (simp only [List.getElem?_toArray, List.getElem?_cons_succ, List.getElem?_cons_zero]; exact rfl)
              · go_simp
                refine hK _ _ (HS.out ((w2.alloc (.cells #[.int .i64 1, .string ⟨#[]⟩, .int .i64 0] 54))) (H2.out.alloc H2.out.size _)) ?_
                clear hK K hHeld
                have hHeld := HS.out ((w2.alloc (.cells #[.int .i64 1, .string ⟨#[]⟩, .int .i64 0] 54))) (H2.out.alloc H2.out.size _)
                try simp only [Act.put, List.setIfInBounds_toArray, List.set_cons_zero, List.set_cons_succ]
                have H3 := Lib.hid (H2.out.alloc H2.out.size (.cells #[.int .i64 1, .string ⟨#[]⟩, .int .i64 0] 54))
                have HL := Lib.hid (isC_lit8 (n := 1) (l := [⟨1, ⟨#[]⟩, 0⟩]) (alloc_at (w := w2) (o := .cells #[.int .i64 1, .string ⟨#[]⟩, .int .i64 0] 54) rfl) rfl rfl (by omega) (cells_wf8 (by decide)))
                try trivial
                generalize (w2.alloc (.cells #[.int .i64 1, .string ⟨#[]⟩, .int .i64 0] 54)) = w3 at *
                generalize w2.heap.size = gl at *
                refine held_two (i := 4) (j := 10) (oi := ?oi4u101) (oj := ?oi10u101) (by kernel_rfl) ?hi4u101 ?hi10u101 (fun K hK => ?rest4u101) (fun K hK => ?rest10u101)
                case hi4u101 => (simp only [List.getElem?_toArray, List.getElem?_cons_succ, List.getElem?_cons_zero]; exact rfl)
                case hi10u101 => (simp only [List.getElem?_toArray, List.getElem?_cons_succ, List.getElem?_cons_zero]; exact rfl)
                · go_simp
                  go_at_call 19
                  refine (put_yes (hPut_any (.v 0) A1 B1 D2 (some ⟨gl, 0, none⟩) 7 c1 0 d1 1 e2 1 1 7 hL2 [1] w3 (HC1.out.below H3.out) HL.out (HI1.out.below H3.out) okT4 (by decide) (by omega) (by omega)) hput4 (by decide)).mono ?_
                  rintro e w4 ⟨A2, c2, D2, d2, rfl, hC2, hI2, hb4⟩
                  have H4 := Lib.hid (H3.out.trans (hb4.mono H3.out.size))
                  have HC2 := Lib.hid hC2
                  have HI2 := Lib.hid hI2
                  clear hC2 hI2
                  try go_simp
                  refine hK _ _ (HS.out _ H4.out) ?_
                  clear hK K hHeld
                  have hHeld := HS.out _ H4.out
                  try simp only [Act.put, List.setIfInBounds_toArray, List.set_cons_zero, List.set_cons_succ]
                  refine takeH 5 hHeld ?_
                  try simp only [Act.put, List.setIfInBounds_toArray, List.set_cons_zero, List.set_cons_succ]
                  refine takeH 6 hHeld ?_
                  try simp only [Act.put, List.setIfInBounds_toArray, List.set_cons_zero, List.set_cons_succ]
                  refine takeH 7 hHeld ?_
                  try simp only [Act.put, List.setIfInBounds_toArray, List.set_cons_zero, List.set_cons_succ]
                  refine takeH 8 hHeld ?_
                  try simp only [Act.put, List.setIfInBounds_toArray, List.set_cons_zero, List.set_cons_succ]
                  refine takeH 9 hHeld ?_
                  try simp only [Act.put, List.setIfInBounds_toArray, List.set_cons_zero, List.set_cons_succ]
                  refine held_one (i := 10) (o := ?oi10u107) (by kernel_rfl) ?hi10u107 (fun K hK => ?rest10u107)
                  case hi10u107 => (simp only [List.getElem?_toArray, List.getElem?_cons_succ, List.getElem?_cons_zero]; exact rfl)
                  go_simp
                  refine hK _ _ (HS.out ((w4.alloc Oz)) (H4.out.alloc H4.out.size _)) ?_
                  clear hK K hHeld
                  have hHeld := HS.out ((w4.alloc Oz)) (H4.out.alloc H4.out.size _)
                  try simp only [Act.put, List.setIfInBounds_toArray, List.set_cons_zero, List.set_cons_succ]
                  have HO := Lib.hid (H4.out.alloc H4.out.size Oz)
                  have HZ := Lib.hid (show (w4.alloc Oz).heap[w4.heap.size]? = some (.cells #[.slice none 0 0, .slice none 0 0, .int .i64 0] 25 (0, 0)) from alloc_at rfl)
                  have Hgb : Hid (X.heap.size ≤ w4.heap.size) := Lib.hid H4.out.size
                  have HY := HO
                  have Hz := HZ
                  have HC2 := Lib.hid (HC2.out.below (bas w4 Oz))
                  have HI2 := Lib.hid (HI2.out.below (bas w4 Oz))
                  generalize w4.alloc Oz = Y at *
                  generalize w4.heap.size = gb at *
                  obtain ⟨z0, z1, z2, zl, zf0, zf1, zf2⟩ := cells3 Hz.out
                  obtain ⟨F, hF, hzF, hkF⟩ := store_heap (A := A2) (n := hL2.length) (c := c2) (B := B1) (m := 0) (d := d1) (r := 7) Hz.out
                  have HF := Lib.hid (HY.out.trans (hkF.bel.mono Hgb.out))
                  have HC2F := Lib.hid (HC2.out.kq hkF (HC2.out.off_heap (by decide) Hz.out))
                  have HI2F := Lib.hid (HI2.out.kq hkF (HI2.out.off_heap (by decide) Hz.out))
                  have HzF := Lib.hid hzF
                  refine held_one (i := 11) (o := ?oi11u108) (by kernel_rfl) ?hi11u108 (fun K hK => ?rest11u108)
                  case hi11u108 => (simp only [List.getElem?_toArray, List.getElem?_cons_succ, List.getElem?_cons_zero]; exact rfl)
                  go_simp
                  rw [← hF]
                  refine hK _ _ (HS.out _ HF.out) ?_
                  clear hK K hHeld
                  have hHeld := HS.out _ HF.out
                  try simp only [Act.put, List.setIfInBounds_toArray, List.set_cons_zero, List.set_cons_succ]
                  refine takeH 12 hHeld ?_
                  try simp only [Act.put, List.setIfInBounds_toArray, List.set_cons_zero, List.set_cons_succ]
                  refine takeH 13 hHeld ?_
                  try simp only [Act.put, List.setIfInBounds_toArray, List.set_cons_zero, List.set_cons_succ]
                  refine takeH 14 hHeld ?_
                  try simp only [Act.put, List.setIfInBounds_toArray, List.set_cons_zero, List.set_cons_succ]
                  refine wpAnyH_done (by kernel_rfl) ?_ _
                  clear hzF hkF hF z0 z1 z2 zl zf0 zf1 zf2 hHeld
                  go_wp2_with fail
                  go_meet
                  exact ⟨rfl, rfl, HF.out⟩
                · go_simp
                  refine hK _ _ (HS.out ((w3.alloc Oz)) (H3.out.alloc H3.out.size _)) ?_
                  clear hK K hHeld
                  have hHeld := HS.out ((w3.alloc Oz)) (H3.out.alloc H3.out.size _)
                  try simp only [Act.put, List.setIfInBounds_toArray, List.set_cons_zero, List.set_cons_succ]
                  have HO := Lib.hid (H3.out.alloc H3.out.size Oz)
                  have HZ := Lib.hid (show (w3.alloc Oz).heap[w3.heap.size]? = some (.cells #[.slice none 0 0, .slice none 0 0, .int .i64 0] 25 (0, 0)) from alloc_at rfl)
                  have Hgb : Hid (X.heap.size ≤ w3.heap.size) := Lib.hid H3.out.size
                  have HL3 := Lib.hid (HL.out.below (bas w3 Oz))
                  generalize w3.alloc Oz = w5 at *
                  generalize w3.heap.size = gb at *
                  refine held_one (i := 4) (o := ?oi4u112) (by kernel_rfl) ?hi4u112 (fun K hK => ?rest4u112)
                  case hi4u112 => (simp only [List.getElem?_toArray, List.getElem?_cons_succ, List.getElem?_cons_zero]; exact rfl)
                  go_simp
                  go_at_call 19
                  refine (put_yes (hPut_any (.v 0) A1 B1 D2 (some ⟨gl, 0, none⟩) 7 c1 0 d1 1 e2 1 1 7 hL2 [1] w5 (HC1.out.below HO.out) HL3.out (HI1.out.below HO.out) okT4 (by decide) (by omega) (by omega)) hput4 (by decide)).mono ?_
                  rintro e w4 ⟨A2, c2, D2, d2, rfl, hC2, hI2, hb4⟩
                  have H4 := Lib.hid (HO.out.trans (hb4.mono HO.out.size))
                  have HC2 := Lib.hid hC2
                  have HI2 := Lib.hid hI2
                  clear hC2 hI2
                  try go_simp
                  refine hK _ _ (HS.out _ H4.out) ?_
                  clear hK K hHeld
                  have hHeld := HS.out _ H4.out
                  try simp only [Act.put, List.setIfInBounds_toArray, List.set_cons_zero, List.set_cons_succ]
                  refine takeH 5 hHeld ?_
                  try simp only [Act.put, List.setIfInBounds_toArray, List.set_cons_zero, List.set_cons_succ]
                  refine takeH 6 hHeld ?_
                  try simp only [Act.put, List.setIfInBounds_toArray, List.set_cons_zero, List.set_cons_succ]
                  refine takeH 7 hHeld ?_
                  try simp only [Act.put, List.setIfInBounds_toArray, List.set_cons_zero, List.set_cons_succ]
                  refine takeH 8 hHeld ?_
                  try simp only [Act.put, List.setIfInBounds_toArray, List.set_cons_zero, List.set_cons_succ]
                  refine takeH 9 hHeld ?_
                  try simp only [Act.put, List.setIfInBounds_toArray, List.set_cons_zero, List.set_cons_succ]
                  have HY := H4
                  have Hz := Lib.hid ((hb4.block gb (block_lt HZ.out)).trans HZ.out)
                  clear hb4
                  generalize w4 = Y at *
                  obtain ⟨z0, z1, z2, zl, zf0, zf1, zf2⟩ := cells3 Hz.out
                  obtain ⟨F, hF, hzF, hkF⟩ := store_heap (A := A2) (n := hL2.length) (c := c2) (B := B1) (m := 0) (d := d1) (r := 7) Hz.out
                  have HF := Lib.hid (HY.out.trans (hkF.bel.mono Hgb.out))
                  have HC2F := Lib.hid (HC2.out.kq hkF (HC2.out.off_heap (by decide) Hz.out))
                  have HI2F := Lib.hid (HI2.out.kq hkF (HI2.out.off_heap (by decide) Hz.out))
                  have HzF := Lib.hid hzF
                  refine held_one (i := 11) (o := ?oi11u118) (by kernel_rfl) ?hi11u118 (fun K hK => ?rest11u118)
                  case hi11u118 => (simp only [List.getElem?_toArray, List.getElem?_cons_succ, List.getElem?_cons_zero]; exact rfl)
                  go_simp
                  rw [← hF]
                  refine hK _ _ (HS.out _ HF.out) ?_
                  clear hK K hHeld
                  have hHeld := HS.out _ HF.out
                  try simp only [Act.put, List.setIfInBounds_toArray, List.set_cons_zero, List.set_cons_succ]
                  refine takeH 12 hHeld ?_
                  try simp only [Act.put, List.setIfInBounds_toArray, List.set_cons_zero, List.set_cons_succ]
                  refine takeH 13 hHeld ?_
                  try simp only [Act.put, List.setIfInBounds_toArray, List.set_cons_zero, List.set_cons_succ]
                  refine takeH 14 hHeld ?_
                  try simp only [Act.put, List.setIfInBounds_toArray, List.set_cons_zero, List.set_cons_succ]
                  refine wpAnyH_done (by kernel_rfl) ?_ _
                  clear hzF hkF hF z0 z1 z2 zl zf0 zf1 zf2 hHeld
                  go_wp2_with fail
                  go_meet
                  exact ⟨rfl, rfl, HF.out⟩
              · go_simp
                refine hK _ _ (HS.out ((w2.alloc Oz)) (H2.out.alloc H2.out.size _)) ?_
                clear hK K hHeld
                have hHeld := HS.out ((w2.alloc Oz)) (H2.out.alloc H2.out.size _)
                try simp only [Act.put, List.setIfInBounds_toArray, List.set_cons_zero, List.set_cons_succ]
                have HO := Lib.hid (H2.out.alloc H2.out.size Oz)
                have HZ := Lib.hid (show (w2.alloc Oz).heap[w2.heap.size]? = some (.cells #[.slice none 0 0, .slice none 0 0, .int .i64 0] 25 (0, 0)) from alloc_at rfl)
                have Hgb : Hid (X.heap.size ≤ w2.heap.size) := Lib.hid H2.out.size
                clear H2
                have H2 := HO
                clear HO
                generalize w2.heap.size = gb at *
                generalize w2.alloc Oz = w2 at *
                refine held_one (i := 2) (o := ?oi2u122) (by kernel_rfl) ?hi2u122 (fun K hK => ?rest2u122)
                case hi2u122 => (simp only [List.getElem?_toArray, List.getElem?_cons_succ, List.getElem?_cons_zero]; exact rfl)
                go_simp
                refine hK _ _ (HS.out ((w2.alloc (.cells #[.int .i64 1, .string ⟨#[]⟩, .int .i64 0] 54))) (H2.out.alloc H2.out.size _)) ?_
                clear hK K hHeld
                have hHeld := HS.out ((w2.alloc (.cells #[.int .i64 1, .string ⟨#[]⟩, .int .i64 0] 54))) (H2.out.alloc H2.out.size _)
                try simp only [Act.put, List.setIfInBounds_toArray, List.set_cons_zero, List.set_cons_succ]
                have H3 := Lib.hid (H2.out.alloc H2.out.size (.cells #[.int .i64 1, .string ⟨#[]⟩, .int .i64 0] 54))
                have HL := Lib.hid (isC_lit8 (n := 1) (l := [⟨1, ⟨#[]⟩, 0⟩]) (alloc_at (w := w2) (o := .cells #[.int .i64 1, .string ⟨#[]⟩, .int .i64 0] 54) rfl) rfl rfl (by omega) (cells_wf8 (by decide)))
                have HZ3 := Lib.hid ((bas w2 (.cells #[.int .i64 1, .string ⟨#[]⟩, .int .i64 0] 54)).block gb (block_lt HZ.out) |>.trans HZ.out)
                generalize (w2.alloc (.cells #[.int .i64 1, .string ⟨#[]⟩, .int .i64 0] 54)) = w3 at *
                generalize w2.heap.size = gl at *
                refine held_one (i := 4) (o := ?oi4u123) (by kernel_rfl) ?hi4u123 (fun K hK => ?rest4u123)
                case hi4u123 => (simp only [List.getElem?_toArray, List.getElem?_cons_succ, List.getElem?_cons_zero]; exact rfl)
                go_simp
                go_at_call 19
                refine (put_yes (hPut_any (.v 0) A1 B1 D2 (some ⟨gl, 0, none⟩) 7 c1 0 d1 1 e2 1 1 7 hL2 [1] w3 (HC1.out.below H3.out) HL.out (HI1.out.below H3.out) okT4 (by decide) (by omega) (by omega)) hput4 (by decide)).mono ?_
                rintro e w4 ⟨A2, c2, D2, d2, rfl, hC2, hI2, hb4⟩
                have H4 := Lib.hid (H3.out.trans (hb4.mono H3.out.size))
                have HC2 := Lib.hid hC2
                have HI2 := Lib.hid hI2
                clear hC2 hI2
                try go_simp
                refine hK _ _ (HS.out _ H4.out) ?_
                clear hK K hHeld
                have hHeld := HS.out _ H4.out
                try simp only [Act.put, List.setIfInBounds_toArray, List.set_cons_zero, List.set_cons_succ]
                refine takeH 5 hHeld ?_
                try simp only [Act.put, List.setIfInBounds_toArray, List.set_cons_zero, List.set_cons_succ]
                refine takeH 6 hHeld ?_
                try simp only [Act.put, List.setIfInBounds_toArray, List.set_cons_zero, List.set_cons_succ]
                refine takeH 7 hHeld ?_
                try simp only [Act.put, List.setIfInBounds_toArray, List.set_cons_zero, List.set_cons_succ]
                refine takeH 8 hHeld ?_
                try simp only [Act.put, List.setIfInBounds_toArray, List.set_cons_zero, List.set_cons_succ]
                refine takeH 9 hHeld ?_
                try simp only [Act.put, List.setIfInBounds_toArray, List.set_cons_zero, List.set_cons_succ]
                have HY := H4
                have Hz := Lib.hid ((hb4.block gb (block_lt HZ3.out)).trans HZ3.out)
                clear hb4
                generalize w4 = Y at *
                obtain ⟨z0, z1, z2, zl, zf0, zf1, zf2⟩ := cells3 Hz.out
                obtain ⟨F, hF, hzF, hkF⟩ := store_heap (A := A2) (n := hL2.length) (c := c2) (B := B1) (m := 0) (d := d1) (r := 7) Hz.out
                have HF := Lib.hid (HY.out.trans (hkF.bel.mono Hgb.out))
                have HC2F := Lib.hid (HC2.out.kq hkF (HC2.out.off_heap (by decide) Hz.out))
                have HI2F := Lib.hid (HI2.out.kq hkF (HI2.out.off_heap (by decide) Hz.out))
                have HzF := Lib.hid hzF
                refine held_one (i := 11) (o := ?oi11u129) (by kernel_rfl) ?hi11u129 (fun K hK => ?rest11u129)
                case hi11u129 => (simp only [List.getElem?_toArray, List.getElem?_cons_succ, List.getElem?_cons_zero]; exact rfl)
                go_simp
                rw [← hF]
                refine hK _ _ (HS.out _ HF.out) ?_
                clear hK K hHeld
                have hHeld := HS.out _ HF.out
                try simp only [Act.put, List.setIfInBounds_toArray, List.set_cons_zero, List.set_cons_succ]
                refine takeH 12 hHeld ?_
                try simp only [Act.put, List.setIfInBounds_toArray, List.set_cons_zero, List.set_cons_succ]
                refine takeH 13 hHeld ?_
                try simp only [Act.put, List.setIfInBounds_toArray, List.set_cons_zero, List.set_cons_succ]
                refine takeH 14 hHeld ?_
                try simp only [Act.put, List.setIfInBounds_toArray, List.set_cons_zero, List.set_cons_succ]
                refine wpAnyH_done (by kernel_rfl) ?_ _
                clear hzF hkF hF z0 z1 z2 zl zf0 zf1 zf2 hHeld
                go_wp2_with fail
                go_meet
                exact ⟨rfl, rfl, HF.out⟩
            · go_simp
              refine hK _ _ (HS.out ((V.alloc Oz)) (HV.out.alloc HV.out.size _)) ?_
              clear hK K hHeld
              have hHeld := HS.out ((V.alloc Oz)) (HV.out.alloc HV.out.size _)
              try simp only [Act.put, List.setIfInBounds_toArray, List.set_cons_zero, List.set_cons_succ]
              have HO := Lib.hid (HV.out.alloc HV.out.size Oz)
              have HZ := Lib.hid (show (V.alloc Oz).heap[V.heap.size]? = some (.cells #[.slice none 0 0, .slice none 0 0, .int .i64 0] 25 (0, 0)) from alloc_at rfl)
              have Hgb : Hid (X.heap.size ≤ V.heap.size) := Lib.hid HV.out.size
              clear HV
              have HV := HO
              clear HO
              generalize V.heap.size = gb at *
              generalize V.alloc Oz = V at *
              refine held_one (i := 1) (o := ?oi1u133) (by kernel_rfl) ?hi1u133 (fun K hK => ?rest1u133)
              case hi1u133 => (simp only [List.getElem?_toArray, List.getElem?_cons_succ, List.getElem?_cons_zero]; exact rfl)
              go_simp
              go_at_call 35
              refine (cv8_any _ _).mono ?_
              rintro e w2 ⟨rfl, hb2⟩
              have H2 := Lib.hid (HV.out.trans (hb2.mono HV.out.size))
              try go_simp
              refine hK _ _ (HS.out _ H2.out) ?_
              clear hK K hHeld
              have hHeld := HS.out _ H2.out
              try simp only [Act.put, List.setIfInBounds_toArray, List.set_cons_zero, List.set_cons_succ]
              have HZ2 := Lib.hid ((hb2.block gb (block_lt HZ.out)).trans HZ.out)
              clear hb2
              refine held_one (i := 2) (o := ?oi2u134) (by kernel_rfl) ?hi2u134 (fun K hK => ?rest2u134)
              case hi2u134 => (simp only [List.getElem?_toArray, List.getElem?_cons_succ, List.getElem?_cons_zero]; exact rfl)
              go_simp
              refine hK _ _ (HS.out ((w2.alloc (.cells #[.int .i64 1, .string ⟨#[]⟩, .int .i64 0] 54))) (H2.out.alloc H2.out.size _)) ?_
              clear hK K hHeld
              have hHeld := HS.out ((w2.alloc (.cells #[.int .i64 1, .string ⟨#[]⟩, .int .i64 0] 54))) (H2.out.alloc H2.out.size _)
              try simp only [Act.put, List.setIfInBounds_toArray, List.set_cons_zero, List.set_cons_succ]
              have H3 := Lib.hid (H2.out.alloc H2.out.size (.cells #[.int .i64 1, .string ⟨#[]⟩, .int .i64 0] 54))
              have HL := Lib.hid (isC_lit8 (n := 1) (l := [⟨1, ⟨#[]⟩, 0⟩]) (alloc_at (w := w2) (o := .cells #[.int .i64 1, .string ⟨#[]⟩, .int .i64 0] 54) rfl) rfl rfl (by omega) (cells_wf8 (by decide)))
              have HZ3 := Lib.hid ((bas w2 (.cells #[.int .i64 1, .string ⟨#[]⟩, .int .i64 0] 54)).block gb (block_lt HZ2.out) |>.trans HZ2.out)
              generalize (w2.alloc (.cells #[.int .i64 1, .string ⟨#[]⟩, .int .i64 0] 54)) = w3 at *
              generalize w2.heap.size = gl at *
              refine held_one (i := 4) (o := ?oi4u135) (by kernel_rfl) ?hi4u135 (fun K hK => ?rest4u135)
              case hi4u135 => (simp only [List.getElem?_toArray, List.getElem?_cons_succ, List.getElem?_cons_zero]; exact rfl)
              go_simp
              go_at_call 19
              refine (put_yes (hPut_any (.v 0) A1 B1 D2 (some ⟨gl, 0, none⟩) 7 c1 0 d1 1 e2 1 1 7 hL2 [1] w3 (HC1.out.below H3.out) HL.out (HI1.out.below H3.out) okT4 (by decide) (by omega) (by omega)) hput4 (by decide)).mono ?_
              rintro e w4 ⟨A2, c2, D2, d2, rfl, hC2, hI2, hb4⟩
              have H4 := Lib.hid (H3.out.trans (hb4.mono H3.out.size))
              have HC2 := Lib.hid hC2
              have HI2 := Lib.hid hI2
              clear hC2 hI2
              try go_simp
              refine hK _ _ (HS.out _ H4.out) ?_
              clear hK K hHeld
              have hHeld := HS.out _ H4.out
              try simp only [Act.put, List.setIfInBounds_toArray, List.set_cons_zero, List.set_cons_succ]
              refine takeH 5 hHeld ?_
              try simp only [Act.put, List.setIfInBounds_toArray, List.set_cons_zero, List.set_cons_succ]
              refine takeH 6 hHeld ?_
              try simp only [Act.put, List.setIfInBounds_toArray, List.set_cons_zero, List.set_cons_succ]
              refine takeH 7 hHeld ?_
              try simp only [Act.put, List.setIfInBounds_toArray, List.set_cons_zero, List.set_cons_succ]
              refine takeH 8 hHeld ?_
              try simp only [Act.put, List.setIfInBounds_toArray, List.set_cons_zero, List.set_cons_succ]
              refine takeH 9 hHeld ?_
              try simp only [Act.put, List.setIfInBounds_toArray, List.set_cons_zero, List.set_cons_succ]
              have HY := H4
              have Hz := Lib.hid ((hb4.block gb (block_lt HZ3.out)).trans HZ3.out)
              clear hb4
              generalize w4 = Y at *
              obtain ⟨z0, z1, z2, zl, zf0, zf1, zf2⟩ := cells3 Hz.out
              obtain ⟨F, hF, hzF, hkF⟩ := store_heap (A := A2) (n := hL2.length) (c := c2) (B := B1) (m := 0) (d := d1) (r := 7) Hz.out
              have HF := Lib.hid (HY.out.trans (hkF.bel.mono Hgb.out))
              have HC2F := Lib.hid (HC2.out.kq hkF (HC2.out.off_heap (by decide) Hz.out))
              have HI2F := Lib.hid (HI2.out.kq hkF (HI2.out.off_heap (by decide) Hz.out))
              have HzF := Lib.hid hzF
              refine held_one (i := 11) (o := ?oi11u141) (by kernel_rfl) ?hi11u141 (fun K hK => ?rest11u141)
              case hi11u141 => (simp only [List.getElem?_toArray, List.getElem?_cons_succ, List.getElem?_cons_zero]; exact rfl)
              go_simp
              rw [← hF]
              refine hK _ _ (HS.out _ HF.out) ?_
              clear hK K hHeld
              have hHeld := HS.out _ HF.out
              try simp only [Act.put, List.setIfInBounds_toArray, List.set_cons_zero, List.set_cons_succ]
              refine takeH 12 hHeld ?_
              try simp only [Act.put, List.setIfInBounds_toArray, List.set_cons_zero, List.set_cons_succ]
              refine takeH 13 hHeld ?_
              try simp only [Act.put, List.setIfInBounds_toArray, List.set_cons_zero, List.set_cons_succ]
              refine takeH 14 hHeld ?_
              try simp only [Act.put, List.setIfInBounds_toArray, List.set_cons_zero, List.set_cons_succ]
              refine wpAnyH_done (by kernel_rfl) ?_ _
              clear hzF hkF hF z0 z1 z2 zl zf0 zf1 zf2 hHeld
              go_wp2_with fail
              go_meet
              exact ⟨rfl, rfl, HF.out⟩
        case rest =>
          obtain ⟨rfl, rfl, hbn⟩ := hcut
          replace hb1 := hb1.trans (hbn.mono hb1.size)
          replace hB1 := hB1.below hbn
          replace hI1 := hI1.below hbn
          replace hB2 := hB2.below hbn
          replace hI2 := hI2.below hbn
          clear hbn
          generalize wc = X at *
          go_upto_region 5 with fail
          go_cut [17, 18] from 70 to 74 (fun v1 v2 wx => ∃ g3 : Nat, v1 = .pointer (some ⟨g3, 0, none⟩) ∧ v2 = .bool true ∧ HB wx g3 hL3 [1] 7 ∧ Below X.heap.size X wx)
          case first =>
            obtain ⟨A1, c1, B1, d1, x1, hC1, hN1⟩ := hB2
            obtain ⟨y0, y1, y2, yl⟩ := open3 x1
            have hu := hUnify_any A1 B1 7 c1 0 d1 7 hL2 [] 1 6 X hC1 hN1 hput2_ok.good (trOk_nil _) (by omega) (by omega)
            rw [huniz1] at hu
            have Hu := Lib.hid hu
            clear hu hC1 hN1 hI1 hI2 hB1
            go_wp2_with (first
              | (go_at_call 23; go_must (refine Hu.out.mono ?_); rintro e wn ⟨hbn, A5, n5, c5, B5, m5, d5, rfl, hC5, hI5, _⟩))
            go_meet
            have e5 := hC5.len
            have f5 := hI5.len
            subst e5 f5
            exact ⟨wn.heap.size, rfl, rfl, ⟨A5, c5, B5, d5, alloc_at rfl, hC5.below (bas _ _), hI5.below (bas _ _)⟩, hbn.alloc hbn.size _⟩
          case rest =>
            obtain ⟨g3, rfl, rfl, hB3, hbn⟩ := hcut
            replace hb1 := hb1.trans (hbn.mono hb1.size)
            replace hB1 := hB1.below hbn
            replace hI1 := hI1.below hbn
            replace hB2 := hB2.below hbn
            replace hI2 := hI2.below hbn
            clear hbn
            generalize wc = X at *
            go_upto_region 6 with fail
            go_cut [19, 20] from 75 to 79 (fun v1 v2 wx => ∃ E k, v1 = .slice E 5 k ∧ v2 = .bool true ∧ IsC wx E 5 k hX ∧ Below X.heap.size X wx)
            case first =>
              obtain ⟨A1, c1, B1, d1, x1, hC1, hN1⟩ := hB3
              obtain ⟨y0, y1, y2, yl⟩ := open3 x1
              have hu := hGet_any A1 B1 7 c1 1 d1 7 0 hL3 X hC1 hL3_ok.1 (by omega)
              rw [hgetz1] at hu
              have Hu := Lib.hid hu
              clear hu hC1 hN1 hI1 hI2 hB1 hB2
              go_wp2_with (first
                | (go_at_call 21; go_must (refine Hu.out.mono ?_); rintro e wn ⟨hbn, A5, n5, c5, rfl, hC5⟩))
              go_meet
              have e5 := hC5.len
              subst e5
              exact ⟨_, _, rfl, rfl, hC5, hbn⟩
            case rest =>
              obtain ⟨E, ek, rfl, rfl, hE, hbn⟩ := hcut
              replace hb1 := hb1.trans (hbn.mono hb1.size)
              replace hB1 := hB1.below hbn
              replace hI1 := hI1.below hbn
              replace hB2 := hB2.below hbn
              replace hI2 := hI2.below hbn
              replace hB3 := hB3.below hbn
              clear hbn
              generalize wc = X at *
              go_upto_region 7 with fail
              go_cut [21, 22] from 80 to 84 (fun v1 v2 wx => ∃ g4 : Nat, v1 = .pointer (some ⟨g4, 0, none⟩) ∧ v2 = .bool false ∧ HB wx g4 hL2 [] 7 ∧ Below X.heap.size X wx)
              case first =>
                obtain ⟨A1, c1, B1, d1, x1, hC1, hN1⟩ := hB2
                obtain ⟨y0, y1, y2, yl⟩ := open3 x1
                have hu := hUnify_any A1 B1 7 c1 0 d1 7 hL2 [] 1 2 X hC1 hN1 hput2_ok.good (trOk_nil _) (by omega) (by omega)
                rw [huniz2] at hu
                have Hu := Lib.hid hu
                have HC1 := Lib.hid hC1
                have HN1 := Lib.hid hN1
                clear hu hC1 hN1 hI1 hI2 hB1 hE hB3
                go_wp2_with (first
                  | (go_at_call 23; go_must (refine Hu.out.mono ?_); rintro e wn ⟨hbn, rfl⟩))
                go_meet
                exact ⟨wn.heap.size, rfl, rfl, ⟨A1, c1, B1, d1, alloc_at rfl, (HC1.out.below hbn).below (bas _ _), (HN1.out.below hbn).below (bas _ _)⟩, hbn.alloc hbn.size _⟩
              case rest =>
                obtain ⟨g4, rfl, rfl, hB4, hbn⟩ := hcut
                replace hb1 := hb1.trans (hbn.mono hb1.size)
                replace hB1 := hB1.below hbn
                replace hI1 := hI1.below hbn
                replace hB2 := hB2.below hbn
                replace hI2 := hI2.below hbn
                replace hB3 := hB3.below hbn
                replace hE := hE.below hbn
                clear hbn
                generalize wc = X at *
                go_upto_region 8 with fail
                go_cut [23] from 85 to 88 (fun v1 wx => ∃ g5 : Nat, v1 = .pointer (some ⟨g5, 0, none⟩) ∧ HB wx g5 hL1 [] 7 ∧ Below X.heap.size X wx)
                case first =>
                  obtain ⟨A1, c1, B1, d1, x1, hC1, hN1⟩ := hB1
                  obtain ⟨A3, c3, B3, d3, x3, hC3, hN3⟩ := hB3
                  have HC3 := Lib.hid hC3
                  have HN3 := Lib.hid hN3
                  obtain ⟨y0, y1, y2, yl⟩ := open3 x1
                  obtain ⟨q0, q1, q2, ql⟩ := open3 x3
                  refine wp_region_held_drew (S := fun w' => w'.cell? ⟨g1, 0, none⟩ = some (.slice A1 6 c1) ∧ w'.cell? ⟨g1, 1, none⟩ = some (.slice B1 0 d1) ∧ w'.cell? ⟨g1, 2, none⟩ = some (.int .i64 7) ∧ w'.cell? ⟨g3, 0, none⟩ = some (.slice A3 7 c3) ∧ w'.cell? ⟨g3, 1, none⟩ = some (.slice B3 1 d3) ∧ w'.cell? ⟨g3, 2, none⟩ = some (.int .i64 7)) (by kernel_rfl) ?gs8 ?gr8
                  case gs8 => exact ⟨y0, y1, y2, q0, q1, q2⟩
                  case gr8 =>
                    intro hHeld
                    have hS : ∀ w', Below X.heap.size X w' → w'.cell? ⟨g1, 0, none⟩ = some (.slice A1 6 c1) ∧ w'.cell? ⟨g1, 1, none⟩ = some (.slice B1 0 d1) ∧ w'.cell? ⟨g1, 2, none⟩ = some (.int .i64 7) ∧ w'.cell? ⟨g3, 0, none⟩ = some (.slice A3 7 c3) ∧ w'.cell? ⟨g3, 1, none⟩ = some (.slice B3 1 d3) ∧ w'.cell? ⟨g3, 2, none⟩ = some (.int .i64 7) := fun w' hb => ⟨(hb.cell (p := ⟨g1, 0, none⟩) yl).trans y0, (hb.cell (p := ⟨g1, 1, none⟩) yl).trans y1, (hb.cell (p := ⟨g1, 2, none⟩) yl).trans y2, (hb.cell (p := ⟨g3, 0, none⟩) ql).trans q0, (hb.cell (p := ⟨g3, 1, none⟩) ql).trans q1, (hb.cell (p := ⟨g3, 2, none⟩) ql).trans q2⟩
                    have HS := Lib.hid hS
                    clear hS y0 y1 y2 yl x1 hC1 hN1 hI1 hI2 hE hB2 hB4 q0 q1 q2 ql x3 hC3 hN3
                    have HV : Hid (Below X.heap.size X X.drew) := Lib.hid ((Below.refl _ _).drew)
                    generalize X.drew = V at *

                    refine takeH 0 hHeld ?_
                    try simp only [Act.put, List.setIfInBounds_toArray, List.set_cons_zero, List.set_cons_succ]
                    refine takeH 1 hHeld ?_
                    try simp only [Act.put, List.setIfInBounds_toArray, List.set_cons_zero, List.set_cons_succ]
                    refine held_two (i := 2) (j := 4) (oi := ?oi2u147) (oj := ?oi4u147) (by kernel_rfl) ?hi2u147 ?hi4u147 (fun K hK => ?rest2u147) (fun K hK => ?rest4u147)
                    case hi2u147 => (simp only [List.getElem?_toArray, List.getElem?_cons_succ, List.getElem?_cons_zero]; exact rfl)
                    case hi4u147 => (simp only [List.getElem?_toArray, List.getElem?_cons_succ, List.getElem?_cons_zero]; exact rfl)
                    · go_simp
                      
                      go_at_call 25
                      refine (mark_head A1 B1 c1 d1 _).mono ?_
                      rintro e w2 ⟨rfl, hb2⟩
                      have H2 := Lib.hid (HV.out.trans (hb2.mono HV.out.size))
                      try go_simp
                      refine hK _ _ (HS.out _ H2.out) ?_
                      clear hK K hHeld
                      have hHeld := HS.out _ H2.out
                      try simp only [Act.put, List.setIfInBounds_toArray, List.set_cons_zero, List.set_cons_succ]
                      refine held_two (i := 3) (j := 4) (oi := ?oi3u148) (oj := ?oi4u148) (by kernel_rfl) ?hi3u148 ?hi4u148 (fun K hK => ?rest3u148) (fun K hK => ?rest4u148)
                      case hi3u148 => (simp only [List.getElem?_toArray, List.getElem?_cons_succ, List.getElem?_cons_zero]; exact rfl)
                      case hi4u148 => (simp only [List.getElem?_toArray, List.getElem?_cons_succ, List.getElem?_cons_zero]; exact rfl)
                      · go_simp
                        
                        go_at_call 29
                        refine (undo_head A3 B3 c3 d3 _ (HC3.out.below H2.out) (HN3.out.below H2.out)).mono ?_
                        rintro e w3 ⟨Au, cu, Bu, du, rfl, hCu, hIu, hb3⟩
                        have H3 := Lib.hid (H2.out.trans (hb3.mono H2.out.size))
                        have HCu := Lib.hid hCu
                        have HIu := Lib.hid hIu
                        clear hCu hIu
                        try go_simp
                        refine hK _ _ (HS.out _ H3.out) ?_
                        clear hK K hHeld
                        have hHeld := HS.out _ H3.out
                        try simp only [Act.put, List.setIfInBounds_toArray, List.set_cons_zero, List.set_cons_succ]
                        refine held_one (i := 4) (o := ?oi4u149) (by kernel_rfl) ?hi4u149 (fun K hK => ?rest4u149)
                        case hi4u149 => (simp only [List.getElem?_toArray, List.getElem?_cons_succ, List.getElem?_cons_zero]; exact rfl)
                        go_simp
                        refine hK _ _ (HS.out ((w3.alloc Oz)) (H3.out.alloc H3.out.size _)) ?_
                        clear hK K hHeld
                        have hHeld := HS.out ((w3.alloc Oz)) (H3.out.alloc H3.out.size _)
                        try simp only [Act.put, List.setIfInBounds_toArray, List.set_cons_zero, List.set_cons_succ]
                        have HY := Lib.hid (H3.out.alloc H3.out.size Oz)
                        have Hz := Lib.hid (show (w3.alloc Oz).heap[w3.heap.size]? = some (.cells #[.slice none 0 0, .slice none 0 0, .int .i64 0] 25 (0, 0)) from alloc_at rfl)
                        have Hgb : Hid (X.heap.size ≤ w3.heap.size) := Lib.hid H3.out.size
                        have HC2 := Lib.hid (HCu.out.below (bas w3 Oz))
                        generalize w3.alloc Oz = Y at *
                        generalize w3.heap.size = gb at *
                        
                        obtain ⟨z0, z1, z2, zl⟩ := open3 Hz.out
                        have zf0 := frozen_of Hz.out 0
                        have zf1 := frozen_of Hz.out 1
                        have zf2 := frozen_of Hz.out 2
                        have hkF : Kq gb Y (((Y.setCell ⟨gb, 0, none⟩ (.slice Au 6 cu)).setCell ⟨gb, 1, none⟩ (.slice Bu 0 du)).setCell ⟨gb, 2, none⟩ (.int .i64 7)) := ((Kq.set Y 0 _).trans (Kq.set _ 1 _)).trans (Kq.set _ 2 _)
                        have HF := Lib.hid (HY.out.trans (hkF.bel.mono Hgb.out))
                        have HC2F := Lib.hid (HC2.out.kq hkF (HC2.out.off_heap (by decide) Hz.out))
                        have hzF : (((Y.setCell ⟨gb, 0, none⟩ (.slice Au 6 cu)).setCell ⟨gb, 1, none⟩ (.slice Bu 0 du)).setCell ⟨gb, 2, none⟩ (.int .i64 7)).heap[gb]? = some (.cells #[.slice Au 6 cu, .slice Bu 0 du, .int .i64 7] 25 (0, 0)) := by
                          have h1 := set_block (k := 0) Hz.out (.slice Au 6 cu)
                          have h2 := set_block (k := 1) h1 (.slice Bu 0 du)
                          have h3 := set_block (k := 2) h2 (.int .i64 7)
                          simpa using h3
                        have HzF := Lib.hid hzF
                        refine held_one (i := 5) (o := ?oi5u150) (by kernel_rfl) ?hi5u150 (fun K hK => ?rest5u150)
                        case hi5u150 => (simp only [List.getElem?_toArray, List.getElem?_cons_succ, List.getElem?_cons_zero]; exact rfl)
                        go_simp
                        refine hK _ _ (HS.out _ HF.out) ?_
                        clear hK K hHeld
                        have hHeld := HS.out _ HF.out
                        try simp only [Act.put, List.setIfInBounds_toArray, List.set_cons_zero, List.set_cons_succ]
                        refine wpAnyH_done (by kernel_rfl) ?_ _
                        clear hzF hkF z0 z1 z2 zl zf0 zf1 zf2 hHeld
                        generalize (((Y.setCell ⟨gb, 0, none⟩ (.slice Au 6 cu)).setCell ⟨gb, 1, none⟩ (.slice Bu 0 du)).setCell ⟨gb, 2, none⟩ (.int .i64 7)) = F at *
                        go_wp2_with fail
                        go_meet
                        exact ⟨gb, rfl, ⟨Au, cu, Bu, du, HzF.out, HC2F.out, isI_nil_any HIu.out⟩, HF.out⟩
                      · go_simp
                        refine hK _ _ (HS.out ((w2.alloc Oz)) (H2.out.alloc H2.out.size _)) ?_
                        clear hK K hHeld
                        have hHeld := HS.out ((w2.alloc Oz)) (H2.out.alloc H2.out.size _)
                        try simp only [Act.put, List.setIfInBounds_toArray, List.set_cons_zero, List.set_cons_succ]
                        have HO := Lib.hid (H2.out.alloc H2.out.size Oz)
                        have HZ := Lib.hid (show (w2.alloc Oz).heap[w2.heap.size]? = some (.cells #[.slice none 0 0, .slice none 0 0, .int .i64 0] 25 (0, 0)) from alloc_at rfl)
                        have Hgb : Hid (X.heap.size ≤ w2.heap.size) := Lib.hid H2.out.size
                        clear H2
                        generalize w2.heap.size = gb at *
                        generalize w2.alloc Oz = w2 at *
                        have H2 := HO
                        clear HO
                        refine held_one (i := 3) (o := ?oi3u151) (by kernel_rfl) ?hi3u151 (fun K hK => ?rest3u151)
                        case hi3u151 => (simp only [List.getElem?_toArray, List.getElem?_cons_succ, List.getElem?_cons_zero]; exact rfl)
                        go_simp
                        
                        go_at_call 29
                        refine (undo_head A3 B3 c3 d3 _ (HC3.out.below H2.out) (HN3.out.below H2.out)).mono ?_
                        rintro e w3 ⟨Au, cu, Bu, du, rfl, hCu, hIu, hb3⟩
                        have H3 := Lib.hid (H2.out.trans (hb3.mono H2.out.size))
                        have HCu := Lib.hid hCu
                        have HIu := Lib.hid hIu
                        clear hCu hIu
                        try go_simp
                        refine hK _ _ (HS.out _ H3.out) ?_
                        clear hK K hHeld
                        have hHeld := HS.out _ H3.out
                        try simp only [Act.put, List.setIfInBounds_toArray, List.set_cons_zero, List.set_cons_succ]
                        have HY := H3
                        have Hz := Lib.hid ((hb3.block gb (block_lt HZ.out)).trans HZ.out)
                        have HC2 := HCu
                        clear hb3
                        generalize w3 = Y at *
                        
                        obtain ⟨z0, z1, z2, zl⟩ := open3 Hz.out
                        have zf0 := frozen_of Hz.out 0
                        have zf1 := frozen_of Hz.out 1
                        have zf2 := frozen_of Hz.out 2
                        have hkF : Kq gb Y (((Y.setCell ⟨gb, 0, none⟩ (.slice Au 6 cu)).setCell ⟨gb, 1, none⟩ (.slice Bu 0 du)).setCell ⟨gb, 2, none⟩ (.int .i64 7)) := ((Kq.set Y 0 _).trans (Kq.set _ 1 _)).trans (Kq.set _ 2 _)
                        have HF := Lib.hid (HY.out.trans (hkF.bel.mono Hgb.out))
                        have HC2F := Lib.hid (HC2.out.kq hkF (HC2.out.off_heap (by decide) Hz.out))
                        have hzF : (((Y.setCell ⟨gb, 0, none⟩ (.slice Au 6 cu)).setCell ⟨gb, 1, none⟩ (.slice Bu 0 du)).setCell ⟨gb, 2, none⟩ (.int .i64 7)).heap[gb]? = some (.cells #[.slice Au 6 cu, .slice Bu 0 du, .int .i64 7] 25 (0, 0)) := by
                          have h1 := set_block (k := 0) Hz.out (.slice Au 6 cu)
                          have h2 := set_block (k := 1) h1 (.slice Bu 0 du)
                          have h3 := set_block (k := 2) h2 (.int .i64 7)
                          simpa using h3
                        have HzF := Lib.hid hzF
                        refine held_one (i := 5) (o := ?oi5u152) (by kernel_rfl) ?hi5u152 (fun K hK => ?rest5u152)
                        case hi5u152 => (simp only [List.getElem?_toArray, List.getElem?_cons_succ, List.getElem?_cons_zero]; exact rfl)
                        go_simp
                        refine hK _ _ (HS.out _ HF.out) ?_
                        clear hK K hHeld
                        have hHeld := HS.out _ HF.out
                        try simp only [Act.put, List.setIfInBounds_toArray, List.set_cons_zero, List.set_cons_succ]
                        refine wpAnyH_done (by kernel_rfl) ?_ _
                        clear hzF hkF z0 z1 z2 zl zf0 zf1 zf2 hHeld
                        generalize (((Y.setCell ⟨gb, 0, none⟩ (.slice Au 6 cu)).setCell ⟨gb, 1, none⟩ (.slice Bu 0 du)).setCell ⟨gb, 2, none⟩ (.int .i64 7)) = F at *
                        go_wp2_with fail
                        go_meet
                        exact ⟨gb, rfl, ⟨Au, cu, Bu, du, HzF.out, HC2F.out, isI_nil_any HIu.out⟩, HF.out⟩
                    · go_simp
                      refine hK _ _ (HS.out ((V.alloc Oz)) (HV.out.alloc HV.out.size _)) ?_
                      clear hK K hHeld
                      have hHeld := HS.out ((V.alloc Oz)) (HV.out.alloc HV.out.size _)
                      try simp only [Act.put, List.setIfInBounds_toArray, List.set_cons_zero, List.set_cons_succ]
                      have HO := Lib.hid (HV.out.alloc HV.out.size Oz)
                      have HZ := Lib.hid (show (V.alloc Oz).heap[V.heap.size]? = some (.cells #[.slice none 0 0, .slice none 0 0, .int .i64 0] 25 (0, 0)) from alloc_at rfl)
                      have Hgb : Hid (X.heap.size ≤ V.heap.size) := Lib.hid HV.out.size
                      clear HV
                      generalize V.heap.size = gb at *
                      generalize V.alloc Oz = V at *
                      have HV := HO
                      clear HO
                      refine held_one (i := 2) (o := ?oi2u153) (by kernel_rfl) ?hi2u153 (fun K hK => ?rest2u153)
                      case hi2u153 => (simp only [List.getElem?_toArray, List.getElem?_cons_succ, List.getElem?_cons_zero]; exact rfl)
                      go_simp
                      
                      go_at_call 25
                      refine (mark_head A1 B1 c1 d1 _).mono ?_
                      rintro e w2 ⟨rfl, hb2⟩
                      have H2 := Lib.hid (HV.out.trans (hb2.mono HV.out.size))
                      try go_simp
                      refine hK _ _ (HS.out _ H2.out) ?_
                      clear hK K hHeld
                      have hHeld := HS.out _ H2.out
                      try simp only [Act.put, List.setIfInBounds_toArray, List.set_cons_zero, List.set_cons_succ]
                      have HZ2 := Lib.hid ((hb2.block gb (block_lt HZ.out)).trans HZ.out)
                      refine held_one (i := 3) (o := ?oi3u154) (by kernel_rfl) ?hi3u154 (fun K hK => ?rest3u154)
                      case hi3u154 => (simp only [List.getElem?_toArray, List.getElem?_cons_succ, List.getElem?_cons_zero]; exact rfl)
                      go_simp
                      
                      go_at_call 29
                      refine (undo_head A3 B3 c3 d3 _ (HC3.out.below H2.out) (HN3.out.below H2.out)).mono ?_
                      rintro e w3 ⟨Au, cu, Bu, du, rfl, hCu, hIu, hb3⟩
                      have H3 := Lib.hid (H2.out.trans (hb3.mono H2.out.size))
                      have HCu := Lib.hid hCu
                      have HIu := Lib.hid hIu
                      clear hCu hIu
                      try go_simp
                      refine hK _ _ (HS.out _ H3.out) ?_
                      clear hK K hHeld
                      have hHeld := HS.out _ H3.out
                      try simp only [Act.put, List.setIfInBounds_toArray, List.set_cons_zero, List.set_cons_succ]
                      have HY := H3
                      have Hz := Lib.hid ((hb3.block gb (block_lt HZ2.out)).trans HZ2.out)
                      have HC2 := HCu
                      clear hb3 hb2
                      generalize w3 = Y at *
                      
                      obtain ⟨z0, z1, z2, zl⟩ := open3 Hz.out
                      have zf0 := frozen_of Hz.out 0
                      have zf1 := frozen_of Hz.out 1
                      have zf2 := frozen_of Hz.out 2
                      have hkF : Kq gb Y (((Y.setCell ⟨gb, 0, none⟩ (.slice Au 6 cu)).setCell ⟨gb, 1, none⟩ (.slice Bu 0 du)).setCell ⟨gb, 2, none⟩ (.int .i64 7)) := ((Kq.set Y 0 _).trans (Kq.set _ 1 _)).trans (Kq.set _ 2 _)
                      have HF := Lib.hid (HY.out.trans (hkF.bel.mono Hgb.out))
                      have HC2F := Lib.hid (HC2.out.kq hkF (HC2.out.off_heap (by decide) Hz.out))
                      have hzF : (((Y.setCell ⟨gb, 0, none⟩ (.slice Au 6 cu)).setCell ⟨gb, 1, none⟩ (.slice Bu 0 du)).setCell ⟨gb, 2, none⟩ (.int .i64 7)).heap[gb]? = some (.cells #[.slice Au 6 cu, .slice Bu 0 du, .int .i64 7] 25 (0, 0)) := by
                        have h1 := set_block (k := 0) Hz.out (.slice Au 6 cu)
                        have h2 := set_block (k := 1) h1 (.slice Bu 0 du)
                        have h3 := set_block (k := 2) h2 (.int .i64 7)
                        simpa using h3
                      have HzF := Lib.hid hzF
                      refine held_one (i := 5) (o := ?oi5u155) (by kernel_rfl) ?hi5u155 (fun K hK => ?rest5u155)
                      case hi5u155 => (simp only [List.getElem?_toArray, List.getElem?_cons_succ, List.getElem?_cons_zero]; exact rfl)
                      go_simp
                      refine hK _ _ (HS.out _ HF.out) ?_
                      clear hK K hHeld
                      have hHeld := HS.out _ HF.out
                      try simp only [Act.put, List.setIfInBounds_toArray, List.set_cons_zero, List.set_cons_succ]
                      refine wpAnyH_done (by kernel_rfl) ?_ _
                      clear hzF hkF z0 z1 z2 zl zf0 zf1 zf2 hHeld
                      generalize (((Y.setCell ⟨gb, 0, none⟩ (.slice Au 6 cu)).setCell ⟨gb, 1, none⟩ (.slice Bu 0 du)).setCell ⟨gb, 2, none⟩ (.int .i64 7)) = F at *
                      go_wp2_with fail
                      go_meet
                      exact ⟨gb, rfl, ⟨Au, cu, Bu, du, HzF.out, HC2F.out, isI_nil_any HIu.out⟩, HF.out⟩
                case rest =>
                  obtain ⟨g5, rfl, hB5, hbn⟩ := hcut
                  replace hb1 := hb1.trans (hbn.mono hb1.size)
                  replace hB1 := hB1.below hbn
                  replace hI1 := hI1.below hbn
                  replace hB2 := hB2.below hbn
                  replace hI2 := hI2.below hbn
                  replace hB3 := hB3.below hbn
                  replace hB4 := hB4.below hbn
                  replace hE := hE.below hbn
                  clear hbn
                  generalize wc = X at *
                  go_upto_region 9 with fail
                  go_cut [24, 25] from 89 to 93 (fun v1 v2 wx => ∃ E k, v1 = .slice E 2 k ∧ v2 = .bool true ∧ IsC wx E 2 k hY ∧ Below X.heap.size X wx)
                  case first =>
                    obtain ⟨A1, c1, B1, d1, x1, hC1, hN1⟩ := hB2
                    obtain ⟨y0, y1, y2, yl⟩ := open3 x1
                    have hu := hGet_any A1 B1 7 c1 0 d1 7 2 hL2 X hC1 hput2_ok.good (by omega)
                    rw [hgetz2] at hu
                    have Hu := Lib.hid hu
                    clear hu hC1 hN1 hI1 hI2 hB1 hB3 hB4 hB5 hE
                    go_wp2_with (first
                      | (go_at_call 21; go_must (refine Hu.out.mono ?_); rintro e wn ⟨hbn, A5, n5, c5, rfl, hC5⟩))
                    go_meet
                    have e5 := hC5.len
                    subst e5
                    exact ⟨_, _, rfl, rfl, hC5, hbn⟩
                  case rest =>
                    obtain ⟨G, gk, rfl, rfl, hG, hbn⟩ := hcut
                    replace hb1 := hb1.trans (hbn.mono hb1.size)
                    replace hB1 := hB1.below hbn
                    replace hI1 := hI1.below hbn
                    replace hB2 := hB2.below hbn
                    replace hI2 := hI2.below hbn
                    replace hB3 := hB3.below hbn
                    replace hB4 := hB4.below hbn
                    replace hB5 := hB5.below hbn
                    replace hE := hE.below hbn
                    clear hbn
                    generalize wc = X at *
                    obtain ⟨A1, c1, B1, d1, ⟨hC1, hN1⟩, hY1⟩ := hB1.open
                    obtain ⟨A2, c2, B2, d2, ⟨hC2, hN2⟩, hY2⟩ := hB2.open
                    obtain ⟨A3, c3, B3, d3, ⟨hC3, hN3⟩, hY3⟩ := hB3.open
                    obtain ⟨A4, c4, B4, d4, ⟨hC4, hN4⟩, hY4⟩ := hB4.open
                    obtain ⟨A5, c5, B5, d5, ⟨hC5, hN5⟩, hY5⟩ := hB5.open
                    obtain ⟨ga, off, rfl, hga, _, k0, k1, k2⟩ := hC3.at_ (k := 1) (c := ⟨1, ⟨#[]⟩, 6⟩) rfl
                    have hcap3 := hC3.sl.hcap
                    have hmax3 := hC3.sl.hmax
                    unfold maxLen at hmax3
                    simp only [hL1, hL2, hL3, List.length_cons, List.length_nil, List.length_append, Nat.zero_add, Nat.reduceAdd] at hY1 hY2 hY3 hY4 hY5 hcap3
                    have hYa : ∀ w', Below X.heap.size X w' → w'.cell? ⟨ga, off + 3, none⟩ = some (.int .i64 1) ∧ w'.cell? ⟨ga, off + 3 + 1, none⟩ = some (.string ⟨#[]⟩) ∧ w'.cell? ⟨ga, off + 3 + 2, none⟩ = some (.int .i64 6) ∧ ga < w'.heap.size := fun w' hb => ⟨(hb.cell (p := ⟨ga, off + 1 * 3, none⟩) hga).trans k0, (hb.cell (p := ⟨ga, off + 1 * 3 + 1, none⟩) hga).trans k1, (hb.cell (p := ⟨ga, off + 1 * 3 + 2, none⟩) hga).trans k2, Nat.lt_of_lt_of_le hga hb.size⟩
                    have HY1 := Lib.hid hY1
                    have HY2 := Lib.hid hY2
                    have HY3 := Lib.hid hY3
                    have HY4 := Lib.hid hY4
                    have HY5 := Lib.hid hY5
                    have HYa := Lib.hid hYa
                    have HC1 := Lib.hid hC1
                    have HN1 := Lib.hid hN1
                    have HC2 := Lib.hid hC2
                    have HN2 := Lib.hid hN2
                    have HC3 := Lib.hid hC3
                    have HN3 := Lib.hid hN3
                    have HC4 := Lib.hid hC4
                    have HN4 := Lib.hid hN4
                    have HC5 := Lib.hid hC5
                    have HN5 := Lib.hid hN5
                    have HI1 := Lib.hid hI1
                    have HI2 := Lib.hid hI2
                    have HE := Lib.hid hE
                    have HG := Lib.hid hG
                    have Hb1 := Lib.hid hb1
                    clear hY1 hY2 hY3 hY4 hY5 hYa hC1 hN1 hC2 hN2 hC3 hN3 hC4 hN4 hC5 hN5 hI1 hI2 hE hG hb1 hB1 hB2 hB3 hB4 hB5 k0 k1 k2 hga
                    go_upto_region 10 with fail
                    have hbX := Below.refl X.heap.size X
                    go_upto_region 11 with fail
                    refine wp_world' (Φ := fun Z => Below X.heap.size X Z ∧ IsC Z (some ⟨X.heap.size, 0, none⟩) 6 6 hL1) ⟨bas _ _, isC_lit8 (alloc_at rfl) rfl rfl (by omega) (cells_wf8 (by decide))⟩ ?_
                    rintro Z ⟨hbZ, hCw⟩
                    replace hbX := hbZ
                    clear hbZ
                    go_wp2_with fail
                    refine (ints_yes D1 _ e1 1 _ (HI1.out.below (by repeat (first | assumption | exact Below.refl _ _ | refine Below.drew ?_ | refine below_drewN ?_ _ | refine Below.alloc ?_ ?_ _ | refine Below.setCell ?_ ?_ _ | (apply Below.size; assumption) | (simp; done) | (simp; omega) | (have hz := hb.size; simp; omega) | (have hz := hb.size; omega) | omega))) (isI_lit8 (alloc_at rfl) (by unfold i64; omega))).mono ?_
                    rintro e wn ⟨rfl, hbn⟩
                    have HCw1 := Lib.hid ((hCw.below (bas _ _)).below hbn)
                    replace hbX := Below.trans (a := X) (B := X.heap.size) (by repeat (first | assumption | exact Below.refl _ _ | refine Below.drew ?_ | refine below_drewN ?_ _ | refine Below.alloc ?_ ?_ _ | refine Below.setCell ?_ ?_ _ | (apply Below.size; assumption) | (simp; done) | (simp; omega) | (have hz := hb.size; simp; omega) | (have hz := hb.size; omega) | omega)) (hbn.mono (by first | exact hbX.size | (have hz := hbX.size; simp; omega)))
                    clear hbn hCw
                    obtain ⟨s10, s11, s12, s1l⟩ := HY1.out _ hbX
                    go_wp2_with fail
                    refine (heaps_yes (HC1.out.below (by repeat (first | assumption | exact Below.refl _ _ | refine Below.drew ?_ | refine below_drewN ?_ _ | refine Below.alloc ?_ ?_ _ | refine Below.setCell ?_ ?_ _ | (apply Below.size; assumption) | (simp; done) | (simp; omega) | (have hz := hb.size; simp; omega) | (have hz := hb.size; omega) | omega))) (HN1.out.below (by repeat (first | assumption | exact Below.refl _ _ | refine Below.drew ?_ | refine below_drewN ?_ _ | refine Below.alloc ?_ ?_ _ | refine Below.setCell ?_ ?_ _ | (apply Below.size; assumption) | (simp; done) | (simp; omega) | (have hz := hb.size; simp; omega) | (have hz := hb.size; omega) | omega))) HCw1.out (isI_nil8 _ _) (by decide) (by decide) (by omega) (by omega)).mono ?_
                    rintro e wn ⟨rfl, hbn⟩
                    replace hbX := Below.trans (a := X) (B := X.heap.size) (by repeat (first | assumption | exact Below.refl _ _ | refine Below.drew ?_ | refine below_drewN ?_ _ | refine Below.alloc ?_ ?_ _ | refine Below.setCell ?_ ?_ _ | (apply Below.size; assumption) | (simp; done) | (simp; omega) | (have hz := hb.size; simp; omega) | (have hz := hb.size; omega) | omega)) (hbn.mono (by first | exact hbX.size | (have hz := hbX.size; simp; omega)))
                    clear hbn s10 s11 s12 s1l HCw1
                    go_wp2_with fail
                    refine (ints_yes D2 _ e2 1 _ (HI2.out.below (by repeat (first | assumption | exact Below.refl _ _ | refine Below.drew ?_ | refine below_drewN ?_ _ | refine Below.alloc ?_ ?_ _ | refine Below.setCell ?_ ?_ _ | (apply Below.size; assumption) | (simp; done) | (simp; omega) | (have hz := hb.size; simp; omega) | (have hz := hb.size; omega) | omega))) (isI_lit8 (alloc_at rfl) (by unfold i64; omega))).mono ?_
                    rintro e wn ⟨rfl, hbn⟩
                    replace hbX := Below.trans (a := X) (B := X.heap.size) (by repeat (first | assumption | exact Below.refl _ _ | refine Below.drew ?_ | refine below_drewN ?_ _ | refine Below.alloc ?_ ?_ _ | refine Below.setCell ?_ ?_ _ | (apply Below.size; assumption) | (simp; done) | (simp; omega) | (have hz := hb.size; simp; omega) | (have hz := hb.size; omega) | omega)) (hbn.mono (by first | exact hbX.size | (have hz := hbX.size; simp; omega)))
                    clear hbn
                    obtain ⟨s30, s31, s32, s3l⟩ := HY3.out _ hbX
                    go_wp2_with fail
                    refine (ints_yes B3 _ d3 1 _ (HN3.out.below (by repeat (first | assumption | exact Below.refl _ _ | refine Below.drew ?_ | refine below_drewN ?_ _ | refine Below.alloc ?_ ?_ _ | refine Below.setCell ?_ ?_ _ | (apply Below.size; assumption) | (simp; done) | (simp; omega) | (have hz := hb.size; simp; omega) | (have hz := hb.size; omega) | omega))) (isI_lit8 (alloc_at rfl) (by unfold i64; omega))).mono ?_
                    rintro e wn ⟨rfl, hbn⟩
                    replace hbX := Below.trans (a := X) (B := X.heap.size) (by repeat (first | assumption | exact Below.refl _ _ | refine Below.drew ?_ | refine below_drewN ?_ _ | refine Below.alloc ?_ ?_ _ | refine Below.setCell ?_ ?_ _ | (apply Below.size; assumption) | (simp; done) | (simp; omega) | (have hz := hb.size; simp; omega) | (have hz := hb.size; omega) | omega)) (hbn.mono (by first | exact hbX.size | (have hz := hbX.size; simp; omega)))
                    clear hbn s30 s31 s32 s3l
                    have hse := slot_yes
                    obtain ⟨s30, s31, s32, s3l⟩ := HY3.out _ hbX
                    obtain ⟨sa0, sa1, sa2, sal⟩ := HYa.out _ hbX
                    go_wp2_with (first | (go_at_call 39; go_must (refine (cf8_any _ _ _).mono ?_); rintro e wn ⟨rfl, hbn⟩; replace hbX := Below.trans (a := X) (B := X.heap.size) (by repeat (first | assumption | exact Below.refl _ _ | refine Below.drew ?_ | refine below_drewN ?_ _ | refine Below.alloc ?_ ?_ _ | refine Below.setCell ?_ ?_ _ | (apply Below.size; assumption) | (simp; done) | (simp; omega) | (have hz := hb.size; simp; omega) | (have hz := hb.size; omega) | omega)) (hbn.mono (by first | exact hbX.size | (have hz := hbX.size; simp; omega))); clear hbn) | (go_at_call 35; go_must (refine (cv8_any _ _).mono ?_); rintro e wn ⟨rfl, hbn⟩; replace hbX := Below.trans (a := X) (B := X.heap.size) (by repeat (first | assumption | exact Below.refl _ _ | refine Below.drew ?_ | refine below_drewN ?_ _ | refine Below.alloc ?_ ?_ _ | refine Below.setCell ?_ ?_ _ | (apply Below.size; assumption) | (simp; done) | (simp; omega) | (have hz := hb.size; simp; omega) | (have hz := hb.size; omega) | omega)) (hbn.mono (by first | exact hbX.size | (have hz := hbX.size; simp; omega))); clear hbn) | (go_at_call 40; go_must (refine (cn8_any _ _).mono ?_); rintro e wn ⟨rfl, hbn⟩; replace hbX := Below.trans (a := X) (B := X.heap.size) (by repeat (first | assumption | exact Below.refl _ _ | refine Below.drew ?_ | refine below_drewN ?_ _ | refine Below.alloc ?_ ?_ _ | refine Below.setCell ?_ ?_ _ | (apply Below.size; assumption) | (simp; done) | (simp; omega) | (have hz := hb.size; simp; omega) | (have hz := hb.size; omega) | omega)) (hbn.mono (by first | exact hbX.size | (have hz := hbX.size; simp; omega))); clear hbn))
                    refine (terms_yes (HE.out.below (by repeat (first | assumption | exact Below.refl _ _ | refine Below.drew ?_ | refine below_drewN ?_ _ | refine Below.alloc ?_ ?_ _ | refine Below.setCell ?_ ?_ _ | (apply Below.size; assumption) | (simp; done) | (simp; omega) | (have hz := hb.size; simp; omega) | (have hz := hb.size; omega) | omega))) (isC_lit8 (l := hX) (n := 5) (alloc_at rfl) rfl rfl (by omega) (cells_wf8 (by decide))) (by omega) (by omega)).mono ?_
                    rintro e wn ⟨rfl, hbn⟩
                    replace hbX := Below.trans (a := X) (B := X.heap.size) (by repeat (first | assumption | exact Below.refl _ _ | refine Below.drew ?_ | refine below_drewN ?_ _ | refine Below.alloc ?_ ?_ _ | refine Below.setCell ?_ ?_ _ | (apply Below.size; assumption) | (simp; done) | (simp; omega) | (have hz := hb.size; simp; omega) | (have hz := hb.size; omega) | omega)) (hbn.mono (by first | exact hbX.size | (have hz := hbX.size; simp; omega)))
                    clear hbn s30 s31 s32 s3l sa0 sa1 sa2 sal hse
                    obtain ⟨s40, s41, s42, s4l⟩ := HY4.out _ hbX
                    obtain ⟨s20, s21, s22, s2l⟩ := HY2.out _ hbX
                    go_wp2_with fail
                    refine (heaps_yes (HC4.out.below (by repeat (first | assumption | exact Below.refl _ _ | refine Below.drew ?_ | refine below_drewN ?_ _ | refine Below.alloc ?_ ?_ _ | refine Below.setCell ?_ ?_ _ | (apply Below.size; assumption) | (simp; done) | (simp; omega) | (have hz := hb.size; simp; omega) | (have hz := hb.size; omega) | omega))) (HN4.out.below (by repeat (first | assumption | exact Below.refl _ _ | refine Below.drew ?_ | refine below_drewN ?_ _ | refine Below.alloc ?_ ?_ _ | refine Below.setCell ?_ ?_ _ | (apply Below.size; assumption) | (simp; done) | (simp; omega) | (have hz := hb.size; simp; omega) | (have hz := hb.size; omega) | omega))) (HC2.out.below (by repeat (first | assumption | exact Below.refl _ _ | refine Below.drew ?_ | refine below_drewN ?_ _ | refine Below.alloc ?_ ?_ _ | refine Below.setCell ?_ ?_ _ | (apply Below.size; assumption) | (simp; done) | (simp; omega) | (have hz := hb.size; simp; omega) | (have hz := hb.size; omega) | omega))) (HN2.out.below (by repeat (first | assumption | exact Below.refl _ _ | refine Below.drew ?_ | refine below_drewN ?_ _ | refine Below.alloc ?_ ?_ _ | refine Below.setCell ?_ ?_ _ | (apply Below.size; assumption) | (simp; done) | (simp; omega) | (have hz := hb.size; simp; omega) | (have hz := hb.size; omega) | omega))) (by decide) (by decide) (by decide) (by decide)).mono ?_
                    rintro e wn ⟨rfl, hbn⟩
                    replace hbX := Below.trans (a := X) (B := X.heap.size) (by repeat (first | assumption | exact Below.refl _ _ | refine Below.drew ?_ | refine below_drewN ?_ _ | refine Below.alloc ?_ ?_ _ | refine Below.setCell ?_ ?_ _ | (apply Below.size; assumption) | (simp; done) | (simp; omega) | (have hz := hb.size; simp; omega) | (have hz := hb.size; omega) | omega)) (hbn.mono (by first | exact hbX.size | (have hz := hbX.size; simp; omega)))
                    clear hbn s40 s41 s42 s4l s20 s21 s22 s2l
                    obtain ⟨s50, s51, s52, s5l⟩ := HY5.out _ hbX
                    obtain ⟨s10, s11, s12, s1l⟩ := HY1.out _ hbX
                    go_wp2_with fail
                    refine (heaps_yes (HC5.out.below (by repeat (first | assumption | exact Below.refl _ _ | refine Below.drew ?_ | refine below_drewN ?_ _ | refine Below.alloc ?_ ?_ _ | refine Below.setCell ?_ ?_ _ | (apply Below.size; assumption) | (simp; done) | (simp; omega) | (have hz := hb.size; simp; omega) | (have hz := hb.size; omega) | omega))) (HN5.out.below (by repeat (first | assumption | exact Below.refl _ _ | refine Below.drew ?_ | refine below_drewN ?_ _ | refine Below.alloc ?_ ?_ _ | refine Below.setCell ?_ ?_ _ | (apply Below.size; assumption) | (simp; done) | (simp; omega) | (have hz := hb.size; simp; omega) | (have hz := hb.size; omega) | omega))) (HC1.out.below (by repeat (first | assumption | exact Below.refl _ _ | refine Below.drew ?_ | refine below_drewN ?_ _ | refine Below.alloc ?_ ?_ _ | refine Below.setCell ?_ ?_ _ | (apply Below.size; assumption) | (simp; done) | (simp; omega) | (have hz := hb.size; simp; omega) | (have hz := hb.size; omega) | omega))) (HN1.out.below (by repeat (first | assumption | exact Below.refl _ _ | refine Below.drew ?_ | refine below_drewN ?_ _ | refine Below.alloc ?_ ?_ _ | refine Below.setCell ?_ ?_ _ | (apply Below.size; assumption) | (simp; done) | (simp; omega) | (have hz := hb.size; simp; omega) | (have hz := hb.size; omega) | omega))) (by decide) (by decide) (by decide) (by decide)).mono ?_
                    rintro e wn ⟨rfl, hbn⟩
                    replace hbX := Below.trans (a := X) (B := X.heap.size) (by repeat (first | assumption | exact Below.refl _ _ | refine Below.drew ?_ | refine below_drewN ?_ _ | refine Below.alloc ?_ ?_ _ | refine Below.setCell ?_ ?_ _ | (apply Below.size; assumption) | (simp; done) | (simp; omega) | (have hz := hb.size; simp; omega) | (have hz := hb.size; omega) | omega)) (hbn.mono (by first | exact hbX.size | (have hz := hbX.size; simp; omega)))
                    clear hbn s50 s51 s52 s5l s10 s11 s12 s1l
                    go_wp2_with (first | (go_at_call 39; go_must (refine (cf8_any _ _ _).mono ?_); rintro e wn ⟨rfl, hbn⟩; replace hbX := Below.trans (a := X) (B := X.heap.size) (by repeat (first | assumption | exact Below.refl _ _ | refine Below.drew ?_ | refine below_drewN ?_ _ | refine Below.alloc ?_ ?_ _ | refine Below.setCell ?_ ?_ _ | (apply Below.size; assumption) | (simp; done) | (simp; omega) | (have hz := hb.size; simp; omega) | (have hz := hb.size; omega) | omega)) (hbn.mono (by first | exact hbX.size | (have hz := hbX.size; simp; omega))); clear hbn) | (go_at_call 35; go_must (refine (cv8_any _ _).mono ?_); rintro e wn ⟨rfl, hbn⟩; replace hbX := Below.trans (a := X) (B := X.heap.size) (by repeat (first | assumption | exact Below.refl _ _ | refine Below.drew ?_ | refine below_drewN ?_ _ | refine Below.alloc ?_ ?_ _ | refine Below.setCell ?_ ?_ _ | (apply Below.size; assumption) | (simp; done) | (simp; omega) | (have hz := hb.size; simp; omega) | (have hz := hb.size; omega) | omega)) (hbn.mono (by first | exact hbX.size | (have hz := hbX.size; simp; omega))); clear hbn) | (go_at_call 40; go_must (refine (cn8_any _ _).mono ?_); rintro e wn ⟨rfl, hbn⟩; replace hbX := Below.trans (a := X) (B := X.heap.size) (by repeat (first | assumption | exact Below.refl _ _ | refine Below.drew ?_ | refine below_drewN ?_ _ | refine Below.alloc ?_ ?_ _ | refine Below.setCell ?_ ?_ _ | (apply Below.size; assumption) | (simp; done) | (simp; omega) | (have hz := hb.size; simp; omega) | (have hz := hb.size; omega) | omega)) (hbn.mono (by first | exact hbX.size | (have hz := hbX.size; simp; omega))); clear hbn))
                    refine (terms_yes (HG.out.below (by repeat (first | assumption | exact Below.refl _ _ | refine Below.drew ?_ | refine below_drewN ?_ _ | refine Below.alloc ?_ ?_ _ | refine Below.setCell ?_ ?_ _ | (apply Below.size; assumption) | (simp; done) | (simp; omega) | (have hz := hb.size; simp; omega) | (have hz := hb.size; omega) | omega))) (isC_lit8 (l := hY) (n := 2) (alloc_at rfl) rfl rfl (by omega) (cells_wf8 (by decide))) (by omega) (by omega)).mono ?_
                    rintro e wn ⟨rfl, hbn⟩
                    replace hbX := Below.trans (a := X) (B := X.heap.size) (by repeat (first | assumption | exact Below.refl _ _ | refine Below.drew ?_ | refine below_drewN ?_ _ | refine Below.alloc ?_ ?_ _ | refine Below.setCell ?_ ?_ _ | (apply Below.size; assumption) | (simp; done) | (simp; omega) | (have hz := hb.size; simp; omega) | (have hz := hb.size; omega) | omega)) (hbn.mono (by first | exact hbX.size | (have hz := hbX.size; simp; omega)))
                    clear hbn
                    obtain ⟨s30, s31, s32, s3l⟩ := HY3.out _ hbX
                    go_wp2_with fail
                    refine (right_yes (HC3.out.below (by repeat (first | assumption | exact Below.refl _ _ | refine Below.drew ?_ | refine below_drewN ?_ _ | refine Below.alloc ?_ ?_ _ | refine Below.setCell ?_ ?_ _ | (apply Below.size; assumption) | (simp; done) | (simp; omega) | (have hz := hb.size; simp; omega) | (have hz := hb.size; omega) | omega))) (HN3.out.below (by repeat (first | assumption | exact Below.refl _ _ | refine Below.drew ?_ | refine below_drewN ?_ _ | refine Below.alloc ?_ ?_ _ | refine Below.setCell ?_ ?_ _ | (apply Below.size; assumption) | (simp; done) | (simp; omega) | (have hz := hb.size; simp; omega) | (have hz := hb.size; omega) | omega)))).mono ?_
                    rintro e wn ⟨rfl, hbn⟩
                    replace hbX := Below.trans (a := X) (B := X.heap.size) (by repeat (first | assumption | exact Below.refl _ _ | refine Below.drew ?_ | refine below_drewN ?_ _ | refine Below.alloc ?_ ?_ _ | refine Below.setCell ?_ ?_ _ | (apply Below.size; assumption) | (simp; done) | (simp; omega) | (have hz := hb.size; simp; omega) | (have hz := hb.size; omega) | omega)) (hbn.mono (by first | exact hbX.size | (have hz := hbX.size; simp; omega)))
                    clear hbn s30 s31 s32 s3l
                    go_wp2_with fail
                    refine (new0 _).mono ?_
                    rintro e wn ⟨rfl, hbn⟩
                    replace hbX := Below.trans (a := X) (B := X.heap.size) (by repeat (first | assumption | exact Below.refl _ _ | refine Below.drew ?_ | refine below_drewN ?_ _ | refine Below.alloc ?_ ?_ _ | refine Below.setCell ?_ ?_ _ | (apply Below.size; assumption) | (simp; done) | (simp; omega) | (have hz := hb.size; simp; omega) | (have hz := hb.size; omega) | omega)) (hbn.mono (by first | exact hbX.size | (have hz := hbX.size; simp; omega)))
                    clear hbn
                    go_wp2_with fail
                    refine (right_no8 _).mono ?_
                    rintro e wn ⟨rfl, hbn⟩
                    replace hbX := Below.trans (a := X) (B := X.heap.size) (by repeat (first | assumption | exact Below.refl _ _ | refine Below.drew ?_ | refine below_drewN ?_ _ | refine Below.alloc ?_ ?_ _ | refine Below.setCell ?_ ?_ _ | (apply Below.size; assumption) | (simp; done) | (simp; omega) | (have hz := hb.size; simp; omega) | (have hz := hb.size; omega) | omega)) (hbn.mono (by first | exact hbX.size | (have hz := hbX.size; simp; omega)))
                    clear hbn
                    go_wp2_with fail
                    refine (new4097 _).mono ?_
                    rintro e wn ⟨rfl, hbn⟩
                    replace hbX := Below.trans (a := X) (B := X.heap.size) (by repeat (first | assumption | exact Below.refl _ _ | refine Below.drew ?_ | refine below_drewN ?_ _ | refine Below.alloc ?_ ?_ _ | refine Below.setCell ?_ ?_ _ | (apply Below.size; assumption) | (simp; done) | (simp; omega) | (have hz := hb.size; simp; omega) | (have hz := hb.size; omega) | omega)) (hbn.mono (by first | exact hbX.size | (have hz := hbX.size; simp; omega)))
                    clear hbn
                    have hfd : ∀ w : World, (Instr.field 25 (.agg #[.slice none 0 0, .slice none 0 0, .int .i64 0]) 2).run Try.prog w = .ok (.int .i64 0) w := fun _ => by kernel_rfl
                    go_wp2
                    refine bodyPost_ret (v := .bool true) (by simp [results, Try.results11, go_sem, *]) rfl ?_
                    exact ⟨rfl, Hb1.out.trans (hbX.mono Hb1.out.size)⟩
end Go.Proofs.Ytlndjooddkjnoaa
