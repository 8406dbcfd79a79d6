/- The walk of the live questions of heaps. -/
import Derived.WalkMore
import Derived.Test.YtlndjooddkjnoaaHhA
import Derived.Test.YtlndjooddkjnoaaHV3
import Derived.Test.YtlndjooddkjnoaaB0
set_option linter.unusedVariables false
set_option linter.unusedSimpArgs false
namespace Go.Proofs.Ytlndjooddkjnoaa
open Go.RowKit

theorem okT1 : hT1.ok = true := by kernel_rfl
theorem okT2 : (Tm.i 7).ok = true := by kernel_rfl
theorem okT3 : (Tm.v 1).ok = true := by kernel_rfl
theorem okT4 : (Tm.v 0).ok = true := by kernel_rfl
set_option maxRecDepth 100000 in
set_option maxHeartbeats 8000000 in
theorem head8_any (w : World) : Calls Try.prog 11 #[] w (RetV w (.bool true)) := by
  go_enter Try.func11, Try.ntmps11
  go_upto_region 1 with fail
  go_cut [1, 2, 3, 4] from 27 to 39 (fun v1 v2 v3 v4 wx => ∃ (g d : Nat) (D : Option Addr), v1 = .pointer (some ⟨g, 0, none⟩) ∧ v2 = .int .i64 0 ∧ v3 = .slice D 1 d ∧ v4 = .int .i64 0 ∧ HB wx g hL1 [] 7 ∧ IsI wx D 1 d [1] ∧ Below w.heap.size w wx)
  case first =>
    have hb := Below.refl w.heap.size w
    go_wp2_with (first
      | (go_at_call 15; go_must (refine (new7 _).mono ?_); rintro e wn ⟨rfl, hbn⟩; replace hb := hb.trans (hbn.mono hb.size); clear hbn)
      | (go_at_call 39; go_must (refine (cf8_any _ _ _).mono ?_); rintro e wn ⟨rfl, hbn⟩; replace hb := hb.trans (hbn.mono hb.size); clear hbn)
      | (go_at_call 35; go_must (refine (cv8_any _ _).mono ?_); rintro e wn ⟨rfl, hbn⟩; replace hb := hb.trans (hbn.mono hb.size); clear hbn)
      | (go_at_call 40; go_must (refine (cn8_any _ _).mono ?_); rintro e wn ⟨rfl, hbn⟩; replace hb := hb.trans (hbn.mono hb.size); clear hbn)
      | (go_at_call 19; go_must (refine (put_yes (hPut_any hT1 none none none (some _) 0 0 0 0 0 0 5 5 7 [] [] _ (isC_nil8 _ _) (isC_lit8 (alloc_at rfl) rfl rfl (by omega) (cells_wf8 (by decide))) (isI_nil8 _ _) okT1 (by decide) (by omega) (by omega)) hput1 (by decide)).mono ?_); rintro e wn ⟨A1, c1, D1, d1, rfl, hC1, hI1, hbn⟩; replace hb := (hb.alloc hb.size _).trans (hbn.mono (by have := hb.size; simp; omega)); clear hbn))
    go_meet
    exact ⟨wn.heap.size, d1, D1, rfl, rfl, rfl, rfl, ⟨A1, c1, none, 0, alloc_at rfl, hC1.below (bas _ _), isI_nil8 _ _⟩, hI1.below (bas _ _), hb.alloc hb.size _⟩
  case rest =>
    obtain ⟨g1, e1, D1, rfl, rfl, rfl, rfl, hB1, hI1, hb1⟩ := hcut
    generalize wc = X at *
    go_upto_region 2 with fail
    go_cut [5, 6, 7, 8] from 40 to 49 (fun v1 v2 v3 v4 wx => ∃ (g d : Nat) (D : Option Addr), v1 = .pointer (some ⟨g, 0, none⟩) ∧ v2 = .int .i64 6 ∧ v3 = .slice D 1 d ∧ v4 = .int .i64 0 ∧ HB wx g hL2 [] 7 ∧ IsI wx D 1 d [1] ∧ Below X.heap.size X wx)
    case first =>
      obtain ⟨A1, c1, B1, d1, x1, hC1, hN1⟩ := hB1
      have HN1 := Lib.hid hN1
      have HC1 := Lib.hid hC1
      have HI1 := Lib.hid hI1
      obtain ⟨y0, y1, y2, yl⟩ := open3 x1
      refine wp_region_held_drew (S := fun w' => w'.cell? ⟨g1, 0, none⟩ = some (.slice A1 6 c1) ∧ w'.cell? ⟨g1, 1, none⟩ = some (.slice B1 0 d1) ∧ w'.cell? ⟨g1, 2, none⟩ = some (.int .i64 7)) (by kernel_rfl) ?gs2 ?gr2
      case gs2 => exact ⟨y0, y1, y2⟩
      case gr2 =>
        intro hHeld
        have hS : ∀ w', Below X.heap.size X w' → w'.cell? ⟨g1, 0, none⟩ = some (.slice A1 6 c1) ∧ w'.cell? ⟨g1, 1, none⟩ = some (.slice B1 0 d1) ∧ w'.cell? ⟨g1, 2, none⟩ = some (.int .i64 7) := fun w' hb => ⟨(hb.cell (p := ⟨g1, 0, none⟩) yl).trans y0, (hb.cell (p := ⟨g1, 1, none⟩) yl).trans y1, (hb.cell (p := ⟨g1, 2, none⟩) yl).trans y2⟩
        have HS := Lib.hid hS
        clear hS y0 y1 y2 yl x1 hC1 hN1 hI1
        have HV : Hid (Below X.heap.size X X.drew) := Lib.hid ((Below.refl _ _).drew)
        generalize X.drew = V at *

        refine wpAnyH_take (i := 0) (oi := ?oi0u1) (v := ?v0u1) ?hi0u1 (by kernel_rfl) (by kernel_rfl) (by kernel_rfl) ?hQ0u1 (Or.inl ⟨?hw0u1, ?hy0u1⟩) hHeld ?rest0u1
        case hi0u1 => (simp only [List.getElem?_toArray, List.getElem?_cons_succ, List.getElem?_cons_zero]; exact rfl)
        case hQ0u1 => exact fun _ _ _ h => h
        case hw0u1 => rfl
        case hy0u1 => (intro w hSw; (try dsimp only at hSw); go_simp <;> with_reducible rfl)
        try simp only [Act.put, List.setIfInBounds_toArray, List.set_cons_zero, List.set_cons_succ]
        refine wpAnyH_take (i := 3) (oi := ?oi3u2) (v := ?v3u2) ?hi3u2 (by kernel_rfl) (by kernel_rfl) (by kernel_rfl) ?hQ3u2 (Or.inl ⟨?hw3u2, ?hy3u2⟩) hHeld ?rest3u2
        case hi3u2 => (simp only [List.getElem?_toArray, List.getElem?_cons_succ, List.getElem?_cons_zero]; exact rfl)
        case hQ3u2 => exact fun _ _ _ h => h
        case hw3u2 => rfl
        case hy3u2 => (intro w hSw; (try dsimp only at hSw); go_simp <;> with_reducible rfl)
        try simp only [Act.put, List.setIfInBounds_toArray, List.set_cons_zero, List.set_cons_succ]
        refine held_two (i := 1) (j := 10) (oi := ?oi1u3) (oj := ?oi10u3) (by kernel_rfl) ?hi1u3 ?hi10u3 (fun K hK => ?rest1u3) (fun K hK => ?rest10u3)
        case hi1u3 => (simp only [List.getElem?_toArray, List.getElem?_cons_succ, List.getElem?_cons_zero]; exact rfl)
        case hi10u3 => (simp only [List.getElem?_toArray, List.getElem?_cons_succ, List.getElem?_cons_zero]; exact rfl)
        · go_simp
          go_at_call 40
          refine (cn8_any _ _).mono ?_
          rintro e w2 ⟨rfl, hb2⟩
          have H2 := Lib.hid (HV.out.trans (hb2.mono HV.out.size))
          try go_simp
          refine hK _ _ (HS.out _ H2.out) ?_
          clear hK K hHeld
          have hHeld := HS.out _ H2.out
          try simp only [Act.put, List.setIfInBounds_toArray, List.set_cons_zero, List.set_cons_succ]
          refine held_two (i := 2) (j := 10) (oi := ?oi2u4) (oj := ?oi10u4) (by kernel_rfl) ?hi2u4 ?hi10u4 (fun K hK => ?rest2u4) (fun K hK => ?rest10u4)
          case hi2u4 => (simp only [List.getElem?_toArray, List.getElem?_cons_succ, List.getElem?_cons_zero]; exact rfl)
          case hi10u4 => (simp only [List.getElem?_toArray, List.getElem?_cons_succ, List.getElem?_cons_zero]; exact rfl)
          · go_simp
            refine hK _ _ (HS.out ((w2.alloc (.cells #[.int .i64 2, .string ⟨#[]⟩, .int .i64 7] 54))) (H2.out.alloc H2.out.size _)) ?_
            clear hK K hHeld
            have hHeld := HS.out ((w2.alloc (.cells #[.int .i64 2, .string ⟨#[]⟩, .int .i64 7] 54))) (H2.out.alloc H2.out.size _)
            try simp only [Act.put, List.setIfInBounds_toArray, List.set_cons_zero, List.set_cons_succ]
            have H3 := Lib.hid (H2.out.alloc H2.out.size (.cells #[.int .i64 2, .string ⟨#[]⟩, .int .i64 7] 54))
            have HL := Lib.hid (isC_lit8 (n := 1) (l := [⟨2, ⟨#[]⟩, 7⟩]) (alloc_at (w := w2) (o := .cells #[.int .i64 2, .string ⟨#[]⟩, .int .i64 7] 54) rfl) rfl rfl (by omega) (cells_wf8 (by decide)))
            try trivial
            generalize (w2.alloc (.cells #[.int .i64 2, .string ⟨#[]⟩, .int .i64 7] 54)) = w3 at *
            generalize w2.heap.size = gl at *
            refine held_two (i := 4) (j := 10) (oi := ?oi4u5) (oj := ?oi10u5) (by kernel_rfl) ?hi4u5 ?hi10u5 (fun K hK => ?rest4u5) (fun K hK => ?rest10u5)
            case hi4u5 => (simp only [List.getElem?_toArray, List.getElem?_cons_succ, List.getElem?_cons_zero]; exact rfl)
            case hi10u5 => (simp only [List.getElem?_toArray, List.getElem?_cons_succ, List.getElem?_cons_zero]; exact rfl)
            · go_simp
              go_at_call 19
              refine (put_yes (hPut_any (.i 7) A1 B1 D1 (some ⟨gl, 0, none⟩) 6 c1 0 d1 1 e1 1 1 7 hL1 [1] w3 (HC1.out.below H3.out) HL.out (HI1.out.below H3.out) okT2 (by decide) (by omega) (by omega)) hput2 (by decide)).mono ?_
              rintro e w4 ⟨A2, c2, D2, d2, rfl, hC2, hI2, hb4⟩
              have H4 := Lib.hid (H3.out.trans (hb4.mono H3.out.size))
              have HC2 := Lib.hid hC2
              have HI2 := Lib.hid hI2
              clear hC2 hI2
              try go_simp
              refine hK _ _ (HS.out _ H4.out) ?_
              clear hK K hHeld
              have hHeld := HS.out _ H4.out
              try simp only [Act.put, List.setIfInBounds_toArray, List.set_cons_zero, List.set_cons_succ]
              refine wpAnyH_take (i := 5) (oi := ?oi5u6) (v := ?v5u6) ?hi5u6 (by kernel_rfl) (by kernel_rfl) (by kernel_rfl) ?hQ5u6 (Or.inl ⟨?hw5u6, ?hy5u6⟩) hHeld ?rest5u6
              case hi5u6 => (simp only [List.getElem?_toArray, List.getElem?_cons_succ, List.getElem?_cons_zero]; exact rfl)
              case hQ5u6 => exact fun _ _ _ h => h
              case hw5u6 => rfl
              case hy5u6 => (intro w hSw; (try dsimp only at hSw); go_simp <;> with_reducible rfl)
              try simp only [Act.put, List.setIfInBounds_toArray, List.set_cons_zero, List.set_cons_succ]
              refine wpAnyH_take (i := 6) (oi := ?oi6u7) (v := ?v6u7) ?hi6u7 (by kernel_rfl) (by kernel_rfl) (by kernel_rfl) ?hQ6u7 (Or.inl ⟨?hw6u7, ?hy6u7⟩) hHeld ?rest6u7
              case hi6u7 => (simp only [List.getElem?_toArray, List.getElem?_cons_succ, List.getElem?_cons_zero]; exact rfl)
              case hQ6u7 => exact fun _ _ _ h => h
              case hw6u7 => rfl
              case hy6u7 => (intro w hSw; (try dsimp only at hSw); go_simp <;> with_reducible rfl)
              try simp only [Act.put, List.setIfInBounds_toArray, List.set_cons_zero, List.set_cons_succ]
              refine wpAnyH_take (i := 7) (oi := ?oi7u8) (v := ?v7u8) ?hi7u8 (by kernel_rfl) (by kernel_rfl) (by kernel_rfl) ?hQ7u8 (Or.inl ⟨?hw7u8, ?hy7u8⟩) hHeld ?rest7u8
              case hi7u8 => (simp only [List.getElem?_toArray, List.getElem?_cons_succ, List.getElem?_cons_zero]; exact rfl)
              case hQ7u8 => exact fun _ _ _ h => h
              case hw7u8 => rfl
              case hy7u8 => (intro w hSw; (try dsimp only at hSw); go_simp <;> with_reducible rfl)
              try simp only [Act.put, List.setIfInBounds_toArray, List.set_cons_zero, List.set_cons_succ]
              refine wpAnyH_take (i := 8) (oi := ?oi8u9) (v := ?v8u9) ?hi8u9 (by kernel_rfl) (by kernel_rfl) (by kernel_rfl) ?hQ8u9 (Or.inl ⟨?hw8u9, ?hy8u9⟩) hHeld ?rest8u9
              case hi8u9 => (simp only [List.getElem?_toArray, List.getElem?_cons_succ, List.getElem?_cons_zero]; exact rfl)
              case hQ8u9 => exact fun _ _ _ h => h
              case hw8u9 => rfl
              case hy8u9 => (intro w hSw; (try dsimp only at hSw); go_simp <;> with_reducible rfl)
              try simp only [Act.put, List.setIfInBounds_toArray, List.set_cons_zero, List.set_cons_succ]
              refine wpAnyH_take (i := 9) (oi := ?oi9u10) (v := ?v9u10) ?hi9u10 (by kernel_rfl) (by kernel_rfl) (by kernel_rfl) ?hQ9u10 (Or.inl ⟨?hw9u10, ?hy9u10⟩) hHeld ?rest9u10
              case hi9u10 => (simp only [List.getElem?_toArray, List.getElem?_cons_succ, List.getElem?_cons_zero]; exact rfl)
              case hQ9u10 => exact fun _ _ _ h => h
              case hw9u10 => rfl
              case hy9u10 => (intro w hSw; (try dsimp only at hSw); go_simp <;> with_reducible rfl)
              try simp only [Act.put, List.setIfInBounds_toArray, List.set_cons_zero, List.set_cons_succ]
              refine held_one (i := 10) (o := ?oi10u11) (by kernel_rfl) ?hi10u11 (fun K hK => ?rest10u11)
              case hi10u11 => (simp only [List.getElem?_toArray, List.getElem?_cons_succ, List.getElem?_cons_zero]; exact rfl)
              go_simp
              refine hK _ _ (HS.out ((w4.alloc Oz)) (H4.out.alloc H4.out.size _)) ?_
              clear hK K hHeld
              have hHeld := HS.out ((w4.alloc Oz)) (H4.out.alloc H4.out.size _)
              try simp only [Act.put, List.setIfInBounds_toArray, List.set_cons_zero, List.set_cons_succ]
              have HO := Lib.hid (H4.out.alloc H4.out.size Oz)
              have HZ := Lib.hid (show (w4.alloc Oz).heap[w4.heap.size]? = some (.cells #[.slice none 0 0, .slice none 0 0, .int .i64 0] 25 (0, 0)) from alloc_at rfl)
              have Hgb : Hid (X.heap.size ≤ w4.heap.size) := Lib.hid H4.out.size
              have HY := HO
              have Hz := HZ
              have HC2 := Lib.hid (HC2.out.below (bas w4 Oz))
              have HI2 := Lib.hid (HI2.out.below (bas w4 Oz))
              generalize w4.alloc Oz = Y at *
              generalize w4.heap.size = gb at *
              obtain ⟨z0, z1, z2, zl, zf0, zf1, zf2⟩ := cells3 Hz.out
              obtain ⟨F, hF, hzF, hkF⟩ := store_heap (A := A2) (n := hL2.length) (c := c2) (B := B1) (m := 0) (d := d1) (r := 7) Hz.out
              have HF := Lib.hid (HY.out.trans (hkF.bel.mono Hgb.out))
              have HC2F := Lib.hid (HC2.out.kq hkF (HC2.out.off_heap (by decide) Hz.out))
              have HI2F := Lib.hid (HI2.out.kq hkF (HI2.out.off_heap (by decide) Hz.out))
              have HzF := Lib.hid hzF
              refine held_one (i := 11) (o := ?oi11u12) (by kernel_rfl) ?hi11u12 (fun K hK => ?rest11u12)
              case hi11u12 => (simp only [List.getElem?_toArray, List.getElem?_cons_succ, List.getElem?_cons_zero]; exact rfl)
              go_simp
              rw [← hF]
              refine hK _ _ (HS.out _ HF.out) ?_
              clear hK K hHeld
              have hHeld := HS.out _ HF.out
              try simp only [Act.put, List.setIfInBounds_toArray, List.set_cons_zero, List.set_cons_succ]
              refine wpAnyH_take (i := 12) (oi := ?oi12u13) (v := ?v12u13) ?hi12u13 (by kernel_rfl) (by kernel_rfl) (by kernel_rfl) ?hQ12u13 (Or.inl ⟨?hw12u13, ?hy12u13⟩) hHeld ?rest12u13
              case hi12u13 => (simp only [List.getElem?_toArray, List.getElem?_cons_succ, List.getElem?_cons_zero]; exact rfl)
              case hQ12u13 => exact fun _ _ _ h => h
              case hw12u13 => rfl
              case hy12u13 => (intro w hSw; (try dsimp only at hSw); go_simp <;> with_reducible rfl)
              try simp only [Act.put, List.setIfInBounds_toArray, List.set_cons_zero, List.set_cons_succ]
              refine wpAnyH_take (i := 13) (oi := ?oi13u14) (v := ?v13u14) ?hi13u14 (by kernel_rfl) (by kernel_rfl) (by kernel_rfl) ?hQ13u14 (Or.inl ⟨?hw13u14, ?hy13u14⟩) hHeld ?rest13u14
              case hi13u14 => (simp only [List.getElem?_toArray, List.getElem?_cons_succ, List.getElem?_cons_zero]; exact rfl)
              case hQ13u14 => exact fun _ _ _ h => h
              case hw13u14 => rfl
              case hy13u14 => (intro w hSw; (try dsimp only at hSw); go_simp <;> with_reducible rfl)
              try simp only [Act.put, List.setIfInBounds_toArray, List.set_cons_zero, List.set_cons_succ]
              refine wpAnyH_take (i := 14) (oi := ?oi14u15) (v := ?v14u15) ?hi14u15 (by kernel_rfl) (by kernel_rfl) (by kernel_rfl) ?hQ14u15 (Or.inl ⟨?hw14u15, ?hy14u15⟩) hHeld ?rest14u15
              case hi14u15 => (simp only [List.getElem?_toArray, List.getElem?_cons_succ, List.getElem?_cons_zero]; exact rfl)
              case hQ14u15 => exact fun _ _ _ h => h
              case hw14u15 => rfl
              case hy14u15 => (intro w hSw; (try dsimp only at hSw); go_simp <;> with_reducible rfl)
              try simp only [Act.put, List.setIfInBounds_toArray, List.set_cons_zero, List.set_cons_succ]
              refine wpAnyH_done (by kernel_rfl) ?_ _
              clear hzF hkF hF z0 z1 z2 zl zf0 zf1 zf2 hHeld
              go_wp2_with fail
              go_meet
              exact ⟨gb, d2, D2, rfl, rfl, rfl, rfl, ⟨A2, c2, B1, d1, HzF.out, HC2F.out, HN1.out.below HF.out⟩, HI2F.out, HF.out⟩
            · go_simp
              refine hK _ _ (HS.out ((w3.alloc Oz)) (H3.out.alloc H3.out.size _)) ?_
              clear hK K hHeld
              have hHeld := HS.out ((w3.alloc Oz)) (H3.out.alloc H3.out.size _)
              try simp only [Act.put, List.setIfInBounds_toArray, List.set_cons_zero, List.set_cons_succ]
              have HO := Lib.hid (H3.out.alloc H3.out.size Oz)
              have HZ := Lib.hid (show (w3.alloc Oz).heap[w3.heap.size]? = some (.cells #[.slice none 0 0, .slice none 0 0, .int .i64 0] 25 (0, 0)) from alloc_at rfl)
              have Hgb : Hid (X.heap.size ≤ w3.heap.size) := Lib.hid H3.out.size
              have HL3 := Lib.hid (HL.out.below (bas w3 Oz))
              generalize w3.alloc Oz = w5 at *
              generalize w3.heap.size = gb at *
              refine held_one (i := 4) (o := ?oi4u16) (by kernel_rfl) ?hi4u16 (fun K hK => ?rest4u16)
              case hi4u16 => (simp only [List.getElem?_toArray, List.getElem?_cons_succ, List.getElem?_cons_zero]; exact rfl)
              go_simp
              go_at_call 19
              refine (put_yes (hPut_any (.i 7) A1 B1 D1 (some ⟨gl, 0, none⟩) 6 c1 0 d1 1 e1 1 1 7 hL1 [1] w5 (HC1.out.below HO.out) HL3.out (HI1.out.below HO.out) okT2 (by decide) (by omega) (by omega)) hput2 (by decide)).mono ?_
              rintro e w4 ⟨A2, c2, D2, d2, rfl, hC2, hI2, hb4⟩
              have H4 := Lib.hid (HO.out.trans (hb4.mono HO.out.size))
              have HC2 := Lib.hid hC2
              have HI2 := Lib.hid hI2
              clear hC2 hI2
              try go_simp
              refine hK _ _ (HS.out _ H4.out) ?_
              clear hK K hHeld
              have hHeld := HS.out _ H4.out
              try simp only [Act.put, List.setIfInBounds_toArray, List.set_cons_zero, List.set_cons_succ]
              refine wpAnyH_take (i := 5) (oi := ?oi5u17) (v := ?v5u17) ?hi5u17 (by kernel_rfl) (by kernel_rfl) (by kernel_rfl) ?hQ5u17 (Or.inl ⟨?hw5u17, ?hy5u17⟩) hHeld ?rest5u17
              case hi5u17 => (simp only [List.getElem?_toArray, List.getElem?_cons_succ, List.getElem?_cons_zero]; exact rfl)
              case hQ5u17 => exact fun _ _ _ h => h
              case hw5u17 => rfl
              case hy5u17 => (intro w hSw; (try dsimp only at hSw); go_simp <;> with_reducible rfl)
              try simp only [Act.put, List.setIfInBounds_toArray, List.set_cons_zero, List.set_cons_succ]
              refine wpAnyH_take (i := 6) (oi := ?oi6u18) (v := ?v6u18) ?hi6u18 (by kernel_rfl) (by kernel_rfl) (by kernel_rfl) ?hQ6u18 (Or.inl ⟨?hw6u18, ?hy6u18⟩) hHeld ?rest6u18
              case hi6u18 => (simp only [List.getElem?_toArray, List.getElem?_cons_succ, List.getElem?_cons_zero]; exact rfl)
              case hQ6u18 => exact fun _ _ _ h => h
              case hw6u18 => rfl
              case hy6u18 => (intro w hSw; (try dsimp only at hSw); go_simp <;> with_reducible rfl)
              try simp only [Act.put, List.setIfInBounds_toArray, List.set_cons_zero, List.set_cons_succ]
              refine wpAnyH_take (i := 7) (oi := ?oi7u19) (v := ?v7u19) ?hi7u19 (by kernel_rfl) (by kernel_rfl) (by kernel_rfl) ?hQ7u19 (Or.inl ⟨?hw7u19, ?hy7u19⟩) hHeld ?rest7u19
              case hi7u19 => (simp only [List.getElem?_toArray, List.getElem?_cons_succ, List.getElem?_cons_zero]; exact rfl)
              case hQ7u19 => exact fun _ _ _ h => h
              case hw7u19 => rfl
              case hy7u19 => (intro w hSw; (try dsimp only at hSw); go_simp <;> with_reducible rfl)
              try simp only [Act.put, List.setIfInBounds_toArray, List.set_cons_zero, List.set_cons_succ]
              refine wpAnyH_take (i := 8) (oi := ?oi8u20) (v := ?v8u20) ?hi8u20 (by kernel_rfl) (by kernel_rfl) (by kernel_rfl) ?hQ8u20 (Or.inl ⟨?hw8u20, ?hy8u20⟩) hHeld ?rest8u20
              case hi8u20 => (simp only [List.getElem?_toArray, List.getElem?_cons_succ, List.getElem?_cons_zero]; exact rfl)
              case hQ8u20 => exact fun _ _ _ h => h
              case hw8u20 => rfl
              case hy8u20 => (intro w hSw; (try dsimp only at hSw); go_simp <;> with_reducible rfl)
              try simp only [Act.put, List.setIfInBounds_toArray, List.set_cons_zero, List.set_cons_succ]
              refine wpAnyH_take (i := 9) (oi := ?oi9u21) (v := ?v9u21) ?hi9u21 (by kernel_rfl) (by kernel_rfl) (by kernel_rfl) ?hQ9u21 (Or.inl ⟨?hw9u21, ?hy9u21⟩) hHeld ?rest9u21
              case hi9u21 => (simp only [List.getElem?_toArray, List.getElem?_cons_succ, List.getElem?_cons_zero]; exact rfl)
              case hQ9u21 => exact fun _ _ _ h => h
              case hw9u21 => rfl
              case hy9u21 => (intro w hSw; (try dsimp only at hSw); go_simp <;> with_reducible rfl)
              try simp only [Act.put, List.setIfInBounds_toArray, List.set_cons_zero, List.set_cons_succ]
              have HY := H4
              have Hz := Lib.hid ((hb4.block gb (block_lt HZ.out)).trans HZ.out)
              clear hb4
              generalize w4 = Y at *
              obtain ⟨z0, z1, z2, zl, zf0, zf1, zf2⟩ := cells3 Hz.out
              obtain ⟨F, hF, hzF, hkF⟩ := store_heap (A := A2) (n := hL2.length) (c := c2) (B := B1) (m := 0) (d := d1) (r := 7) Hz.out
              have HF := Lib.hid (HY.out.trans (hkF.bel.mono Hgb.out))
              have HC2F := Lib.hid (HC2.out.kq hkF (HC2.out.off_heap (by decide) Hz.out))
              have HI2F := Lib.hid (HI2.out.kq hkF (HI2.out.off_heap (by decide) Hz.out))
              have HzF := Lib.hid hzF
              refine held_one (i := 11) (o := ?oi11u22) (by kernel_rfl) ?hi11u22 (fun K hK => ?rest11u22)
              case hi11u22 => (simp only [List.getElem?_toArray, List.getElem?_cons_succ, List.getElem?_cons_zero]; exact rfl)
              go_simp
              rw [← hF]
              refine hK _ _ (HS.out _ HF.out) ?_
              clear hK K hHeld
              have hHeld := HS.out _ HF.out
              try simp only [Act.put, List.setIfInBounds_toArray, List.set_cons_zero, List.set_cons_succ]
              refine wpAnyH_take (i := 12) (oi := ?oi12u23) (v := ?v12u23) ?hi12u23 (by kernel_rfl) (by kernel_rfl) (by kernel_rfl) ?hQ12u23 (Or.inl ⟨?hw12u23, ?hy12u23⟩) hHeld ?rest12u23
              case hi12u23 => (simp only [List.getElem?_toArray, List.getElem?_cons_succ, List.getElem?_cons_zero]; exact rfl)
              case hQ12u23 => exact fun _ _ _ h => h
              case hw12u23 => rfl
              case hy12u23 => (intro w hSw; (try dsimp only at hSw); go_simp <;> with_reducible rfl)
              try simp only [Act.put, List.setIfInBounds_toArray, List.set_cons_zero, List.set_cons_succ]
              refine wpAnyH_take (i := 13) (oi := ?oi13u24) (v := ?v13u24) ?hi13u24 (by kernel_rfl) (by kernel_rfl) (by kernel_rfl) ?hQ13u24 (Or.inl ⟨?hw13u24, ?hy13u24⟩) hHeld ?rest13u24
              case hi13u24 => (simp only [List.getElem?_toArray, List.getElem?_cons_succ, List.getElem?_cons_zero]; exact rfl)
              case hQ13u24 => exact fun _ _ _ h => h
              case hw13u24 => rfl
              case hy13u24 => (intro w hSw; (try dsimp only at hSw); go_simp <;> with_reducible rfl)
              try simp only [Act.put, List.setIfInBounds_toArray, List.set_cons_zero, List.set_cons_succ]
              refine wpAnyH_take (i := 14) (oi := ?oi14u25) (v := ?v14u25) ?hi14u25 (by kernel_rfl) (by kernel_rfl) (by kernel_rfl) ?hQ14u25 (Or.inl ⟨?hw14u25, ?hy14u25⟩) hHeld ?rest14u25
              case hi14u25 => (simp only [List.getElem?_toArray, List.getElem?_cons_succ, List.getElem?_cons_zero]; exact rfl)
              case hQ14u25 => exact fun _ _ _ h => h
              case hw14u25 => rfl
              case hy14u25 => (intro w hSw; (try dsimp only at hSw); go_simp <;> with_reducible rfl)
              try simp only [Act.put, List.setIfInBounds_toArray, List.set_cons_zero, List.set_cons_succ]
              refine wpAnyH_done (by kernel_rfl) ?_ _
              clear hzF hkF hF z0 z1 z2 zl zf0 zf1 zf2 hHeld
              go_wp2_with fail
              go_meet
              exact ⟨gb, d2, D2, rfl, rfl, rfl, rfl, ⟨A2, c2, B1, d1, HzF.out, HC2F.out, HN1.out.below HF.out⟩, HI2F.out, HF.out⟩
          · go_simp
            refine hK _ _ (HS.out ((w2.alloc Oz)) (H2.out.alloc H2.out.size _)) ?_
            clear hK K hHeld
            have hHeld := HS.out ((w2.alloc Oz)) (H2.out.alloc H2.out.size _)
            try simp only [Act.put, List.setIfInBounds_toArray, List.set_cons_zero, List.set_cons_succ]
            have HO := Lib.hid (H2.out.alloc H2.out.size Oz)
            have HZ := Lib.hid (show (w2.alloc Oz).heap[w2.heap.size]? = some (.cells #[.slice none 0 0, .slice none 0 0, .int .i64 0] 25 (0, 0)) from alloc_at rfl)
            have Hgb : Hid (X.heap.size ≤ w2.heap.size) := Lib.hid H2.out.size
            clear H2
            have H2 := HO
            clear HO
            generalize w2.heap.size = gb at *
            generalize w2.alloc Oz = w2 at *
            refine held_one (i := 2) (o := ?oi2u26) (by kernel_rfl) ?hi2u26 (fun K hK => ?rest2u26)
            case hi2u26 => (simp only [List.getElem?_toArray, List.getElem?_cons_succ, List.getElem?_cons_zero]; exact rfl)
            go_simp
            refine hK _ _ (HS.out ((w2.alloc (.cells #[.int .i64 2, .string ⟨#[]⟩, .int .i64 7] 54))) (H2.out.alloc H2.out.size _)) ?_
            clear hK K hHeld
            have hHeld := HS.out ((w2.alloc (.cells #[.int .i64 2, .string ⟨#[]⟩, .int .i64 7] 54))) (H2.out.alloc H2.out.size _)
            try simp only [Act.put, List.setIfInBounds_toArray, List.set_cons_zero, List.set_cons_succ]
            have H3 := Lib.hid (H2.out.alloc H2.out.size (.cells #[.int .i64 2, .string ⟨#[]⟩, .int .i64 7] 54))
            have HL := Lib.hid (isC_lit8 (n := 1) (l := [⟨2, ⟨#[]⟩, 7⟩]) (alloc_at (w := w2) (o := .cells #[.int .i64 2, .string ⟨#[]⟩, .int .i64 7] 54) rfl) rfl rfl (by omega) (cells_wf8 (by decide)))
            have HZ3 := Lib.hid ((bas w2 (.cells #[.int .i64 2, .string ⟨#[]⟩, .int .i64 7] 54)).block gb (block_lt HZ.out) |>.trans HZ.out)
            generalize (w2.alloc (.cells #[.int .i64 2, .string ⟨#[]⟩, .int .i64 7] 54)) = w3 at *
            generalize w2.heap.size = gl at *
            refine held_one (i := 4) (o := ?oi4u27) (by kernel_rfl) ?hi4u27 (fun K hK => ?rest4u27)
            case hi4u27 => (simp only [List.getElem?_toArray, List.getElem?_cons_succ, List.getElem?_cons_zero]; exact rfl)
            go_simp
            go_at_call 19
            refine (put_yes (hPut_any (.i 7) A1 B1 D1 (some ⟨gl, 0, none⟩) 6 c1 0 d1 1 e1 1 1 7 hL1 [1] w3 (HC1.out.below H3.out) HL.out (HI1.out.below H3.out) okT2 (by decide) (by omega) (by omega)) hput2 (by decide)).mono ?_
            rintro e w4 ⟨A2, c2, D2, d2, rfl, hC2, hI2, hb4⟩
            have H4 := Lib.hid (H3.out.trans (hb4.mono H3.out.size))
            have HC2 := Lib.hid hC2
            have HI2 := Lib.hid hI2
            clear hC2 hI2
            try go_simp
            refine hK _ _ (HS.out _ H4.out) ?_
            clear hK K hHeld
            have hHeld := HS.out _ H4.out
            try simp only [Act.put, List.setIfInBounds_toArray, List.set_cons_zero, List.set_cons_succ]
            refine wpAnyH_take (i := 5) (oi := ?oi5u28) (v := ?v5u28) ?hi5u28 (by kernel_rfl) (by kernel_rfl) (by kernel_rfl) ?hQ5u28 (Or.inl ⟨?hw5u28, ?hy5u28⟩) hHeld ?rest5u28
            case hi5u28 => (simp only [List.getElem?_toArray, List.getElem?_cons_succ, List.getElem?_cons_zero]; exact rfl)
            case hQ5u28 => exact fun _ _ _ h => h
            case hw5u28 => rfl
            case hy5u28 => (intro w hSw; (try dsimp only at hSw); go_simp <;> with_reducible rfl)
            try simp only [Act.put, List.setIfInBounds_toArray, List.set_cons_zero, List.set_cons_succ]
            refine wpAnyH_take (i := 6) (oi := ?oi6u29) (v := ?v6u29) ?hi6u29 (by kernel_rfl) (by kernel_rfl) (by kernel_rfl) ?hQ6u29 (Or.inl ⟨?hw6u29, ?hy6u29⟩) hHeld ?rest6u29
            case hi6u29 => (simp only [List.getElem?_toArray, List.getElem?_cons_succ, List.getElem?_cons_zero]; exact rfl)
            case hQ6u29 => exact fun _ _ _ h => h
            case hw6u29 => rfl
            case hy6u29 => (intro w hSw; (try dsimp only at hSw); go_simp <;> with_reducible rfl)
            try simp only [Act.put, List.setIfInBounds_toArray, List.set_cons_zero, List.set_cons_succ]
            refine wpAnyH_take (i := 7) (oi := ?oi7u30) (v := ?v7u30) ?hi7u30 (by kernel_rfl) (by kernel_rfl) (by kernel_rfl) ?hQ7u30 (Or.inl ⟨?hw7u30, ?hy7u30⟩) hHeld ?rest7u30
            case hi7u30 => (simp only [List.getElem?_toArray, List.getElem?_cons_succ, List.getElem?_cons_zero]; exact rfl)
            case hQ7u30 => exact fun _ _ _ h => h
            case hw7u30 => rfl
            case hy7u30 => (intro w hSw; (try dsimp only at hSw); go_simp <;> with_reducible rfl)
            try simp only [Act.put, List.setIfInBounds_toArray, List.set_cons_zero, List.set_cons_succ]
            refine wpAnyH_take (i := 8) (oi := ?oi8u31) (v := ?v8u31) ?hi8u31 (by kernel_rfl) (by kernel_rfl) (by kernel_rfl) ?hQ8u31 (Or.inl ⟨?hw8u31, ?hy8u31⟩) hHeld ?rest8u31
            case hi8u31 => (simp only [List.getElem?_toArray, List.getElem?_cons_succ, List.getElem?_cons_zero]; exact rfl)
            case hQ8u31 => exact fun _ _ _ h => h
            case hw8u31 => rfl
            case hy8u31 => (intro w hSw; (try dsimp only at hSw); go_simp <;> with_reducible rfl)
            try simp only [Act.put, List.setIfInBounds_toArray, List.set_cons_zero, List.set_cons_succ]
            refine wpAnyH_take (i := 9) (oi := ?oi9u32) (v := ?v9u32) ?hi9u32 (by kernel_rfl) (by kernel_rfl) (by kernel_rfl) ?hQ9u32 (Or.inl ⟨?hw9u32, ?hy9u32⟩) hHeld ?rest9u32
            case hi9u32 => (simp only [List.getElem?_toArray, List.getElem?_cons_succ, List.getElem?_cons_zero]; exact rfl)
            case hQ9u32 => exact fun _ _ _ h => h
            case hw9u32 => rfl
            case hy9u32 => (intro w hSw; (try dsimp only at hSw); go_simp <;> with_reducible rfl)
            try simp only [Act.put, List.setIfInBounds_toArray, List.set_cons_zero, List.set_cons_succ]
            have HY := H4
            have Hz := Lib.hid ((hb4.block gb (block_lt HZ3.out)).trans HZ3.out)
            clear hb4
            generalize w4 = Y at *
            obtain ⟨z0, z1, z2, zl, zf0, zf1, zf2⟩ := cells3 Hz.out
            obtain ⟨F, hF, hzF, hkF⟩ := store_heap (A := A2) (n := hL2.length) (c := c2) (B := B1) (m := 0) (d := d1) (r := 7) Hz.out
            have HF := Lib.hid (HY.out.trans (hkF.bel.mono Hgb.out))
            have HC2F := Lib.hid (HC2.out.kq hkF (HC2.out.off_heap (by decide) Hz.out))
            have HI2F := Lib.hid (HI2.out.kq hkF (HI2.out.off_heap (by decide) Hz.out))
            have HzF := Lib.hid hzF
            refine held_one (i := 11) (o := ?oi11u33) (by kernel_rfl) ?hi11u33 (fun K hK => ?rest11u33)
            case hi11u33 => (simp only [List.getElem?_toArray, List.getElem?_cons_succ, List.getElem?_cons_zero]; exact rfl)
            go_simp
            rw [← hF]
            refine hK _ _ (HS.out _ HF.out) ?_
            clear hK K hHeld
            have hHeld := HS.out _ HF.out
            try simp only [Act.put, List.setIfInBounds_toArray, List.set_cons_zero, List.set_cons_succ]
            refine wpAnyH_take (i := 12) (oi := ?oi12u34) (v := ?v12u34) ?hi12u34 (by kernel_rfl) (by kernel_rfl) (by kernel_rfl) ?hQ12u34 (Or.inl ⟨?hw12u34, ?hy12u34⟩) hHeld ?rest12u34
            case hi12u34 => (simp only [List.getElem?_toArray, List.getElem?_cons_succ, List.getElem?_cons_zero]; exact rfl)
            case hQ12u34 => exact fun _ _ _ h => h
            case hw12u34 => rfl
            case hy12u34 => (intro w hSw; (try dsimp only at hSw); go_simp <;> with_reducible rfl)
            try simp only [Act.put, List.setIfInBounds_toArray, List.set_cons_zero, List.set_cons_succ]
            refine wpAnyH_take (i := 13) (oi := ?oi13u35) (v := ?v13u35) ?hi13u35 (by kernel_rfl) (by kernel_rfl) (by kernel_rfl) ?hQ13u35 (Or.inl ⟨?hw13u35, ?hy13u35⟩) hHeld ?rest13u35
            case hi13u35 => (simp only [List.getElem?_toArray, List.getElem?_cons_succ, List.getElem?_cons_zero]; exact rfl)
            case hQ13u35 => exact fun _ _ _ h => h
            case hw13u35 => rfl
            case hy13u35 => (intro w hSw; (try dsimp only at hSw); go_simp <;> with_reducible rfl)
            try simp only [Act.put, List.setIfInBounds_toArray, List.set_cons_zero, List.set_cons_succ]
            refine wpAnyH_take (i := 14) (oi := ?oi14u36) (v := ?v14u36) ?hi14u36 (by kernel_rfl) (by kernel_rfl) (by kernel_rfl) ?hQ14u36 (Or.inl ⟨?hw14u36, ?hy14u36⟩) hHeld ?rest14u36
            case hi14u36 => (simp only [List.getElem?_toArray, List.getElem?_cons_succ, List.getElem?_cons_zero]; exact rfl)
            case hQ14u36 => exact fun _ _ _ h => h
            case hw14u36 => rfl
            case hy14u36 => (intro w hSw; (try dsimp only at hSw); go_simp <;> with_reducible rfl)
            try simp only [Act.put, List.setIfInBounds_toArray, List.set_cons_zero, List.set_cons_succ]
            refine wpAnyH_done (by kernel_rfl) ?_ _
            clear hzF hkF hF z0 z1 z2 zl zf0 zf1 zf2 hHeld
            go_wp2_with fail
            go_meet
            exact ⟨gb, d2, D2, rfl, rfl, rfl, rfl, ⟨A2, c2, B1, d1, HzF.out, HC2F.out, HN1.out.below HF.out⟩, HI2F.out, HF.out⟩
        · go_simp
          refine hK _ _ (HS.out ((V.alloc Oz)) (HV.out.alloc HV.out.size _)) ?_
          clear hK K hHeld
          have hHeld := HS.out ((V.alloc Oz)) (HV.out.alloc HV.out.size _)
          try simp only [Act.put, List.setIfInBounds_toArray, List.set_cons_zero, List.set_cons_succ]
          have HO := Lib.hid (HV.out.alloc HV.out.size Oz)
          have HZ := Lib.hid (show (V.alloc Oz).heap[V.heap.size]? = some (.cells #[.slice none 0 0, .slice none 0 0, .int .i64 0] 25 (0, 0)) from alloc_at rfl)
          have Hgb : Hid (X.heap.size ≤ V.heap.size) := Lib.hid HV.out.size
          clear HV
          have HV := HO
          clear HO
          generalize V.heap.size = gb at *
          generalize V.alloc Oz = V at *
          refine held_one (i := 1) (o := ?oi1u37) (by kernel_rfl) ?hi1u37 (fun K hK => ?rest1u37)
          case hi1u37 => (simp only [List.getElem?_toArray, List.getElem?_cons_succ, List.getElem?_cons_zero]; exact rfl)
          go_simp
          go_at_call 40
          refine (cn8_any _ _).mono ?_
          rintro e w2 ⟨rfl, hb2⟩
          have H2 := Lib.hid (HV.out.trans (hb2.mono HV.out.size))
          try go_simp
          refine hK _ _ (HS.out _ H2.out) ?_
          clear hK K hHeld
          have hHeld := HS.out _ H2.out
          try simp only [Act.put, List.setIfInBounds_toArray, List.set_cons_zero, List.set_cons_succ]
          have HZ2 := Lib.hid ((hb2.block gb (block_lt HZ.out)).trans HZ.out)
          clear hb2
          refine held_one (i := 2) (o := ?oi2u38) (by kernel_rfl) ?hi2u38 (fun K hK => ?rest2u38)
          case hi2u38 => (simp only [List.getElem?_toArray, List.getElem?_cons_succ, List.getElem?_cons_zero]; exact rfl)
          go_simp
          refine hK _ _ (HS.out ((w2.alloc (.cells #[.int .i64 2, .string ⟨#[]⟩, .int .i64 7] 54))) (H2.out.alloc H2.out.size _)) ?_
          clear hK K hHeld
          have hHeld := HS.out ((w2.alloc (.cells #[.int .i64 2, .string ⟨#[]⟩, .int .i64 7] 54))) (H2.out.alloc H2.out.size _)
          try simp only [Act.put, List.setIfInBounds_toArray, List.set_cons_zero, List.set_cons_succ]
          have H3 := Lib.hid (H2.out.alloc H2.out.size (.cells #[.int .i64 2, .string ⟨#[]⟩, .int .i64 7] 54))
          have HL := Lib.hid (isC_lit8 (n := 1) (l := [⟨2, ⟨#[]⟩, 7⟩]) (alloc_at (w := w2) (o := .cells #[.int .i64 2, .string ⟨#[]⟩, .int .i64 7] 54) rfl) rfl rfl (by omega) (cells_wf8 (by decide)))
          have HZ3 := Lib.hid ((bas w2 (.cells #[.int .i64 2, .string ⟨#[]⟩, .int .i64 7] 54)).block gb (block_lt HZ2.out) |>.trans HZ2.out)
          generalize (w2.alloc (.cells #[.int .i64 2, .string ⟨#[]⟩, .int .i64 7] 54)) = w3 at *
          generalize w2.heap.size = gl at *
          refine held_one (i := 4) (o := ?oi4u39) (by kernel_rfl) ?hi4u39 (fun K hK => ?rest4u39)
          case hi4u39 => (simp only [List.getElem?_toArray, List.getElem?_cons_succ, List.getElem?_cons_zero]; exact rfl)
          go_simp
          go_at_call 19
          refine (put_yes (hPut_any (.i 7) A1 B1 D1 (some ⟨gl, 0, none⟩) 6 c1 0 d1 1 e1 1 1 7 hL1 [1] w3 (HC1.out.below H3.out) HL.out (HI1.out.below H3.out) okT2 (by decide) (by omega) (by omega)) hput2 (by decide)).mono ?_
          rintro e w4 ⟨A2, c2, D2, d2, rfl, hC2, hI2, hb4⟩
          have H4 := Lib.hid (H3.out.trans (hb4.mono H3.out.size))
          have HC2 := Lib.hid hC2
          have HI2 := Lib.hid hI2
          clear hC2 hI2
          try go_simp
          refine hK _ _ (HS.out _ H4.out) ?_
          clear hK K hHeld
          have hHeld := HS.out _ H4.out
          try simp only [Act.put, List.setIfInBounds_toArray, List.set_cons_zero, List.set_cons_succ]
          refine wpAnyH_take (i := 5) (oi := ?oi5u40) (v := ?v5u40) ?hi5u40 (by kernel_rfl) (by kernel_rfl) (by kernel_rfl) ?hQ5u40 (Or.inl ⟨?hw5u40, ?hy5u40⟩) hHeld ?rest5u40
          case hi5u40 => (simp only [List.getElem?_toArray, List.getElem?_cons_succ, List.getElem?_cons_zero]; exact rfl)
          case hQ5u40 => exact fun _ _ _ h => h
          case hw5u40 => rfl
          case hy5u40 => (intro w hSw; (try dsimp only at hSw); go_simp <;> with_reducible rfl)
          try simp only [Act.put, List.setIfInBounds_toArray, List.set_cons_zero, List.set_cons_succ]
          refine wpAnyH_take (i := 6) (oi := ?oi6u41) (v := ?v6u41) ?hi6u41 (by kernel_rfl) (by kernel_rfl) (by kernel_rfl) ?hQ6u41 (Or.inl ⟨?hw6u41, ?hy6u41⟩) hHeld ?rest6u41
          case hi6u41 => (simp only [List.getElem?_toArray, List.getElem?_cons_succ, List.getElem?_cons_zero]; exact rfl)
          case hQ6u41 => exact fun _ _ _ h => h
          case hw6u41 => rfl
          case hy6u41 => (intro w hSw; (try dsimp only at hSw); go_simp <;> with_reducible rfl)
          try simp only [Act.put, List.setIfInBounds_toArray, List.set_cons_zero, List.set_cons_succ]
          refine wpAnyH_take (i := 7) (oi := ?oi7u42) (v := ?v7u42) ?hi7u42 (by kernel_rfl) (by kernel_rfl) (by kernel_rfl) ?hQ7u42 (Or.inl ⟨?hw7u42, ?hy7u42⟩) hHeld ?rest7u42
          case hi7u42 => (simp only [List.getElem?_toArray, List.getElem?_cons_succ, List.getElem?_cons_zero]; exact rfl)
          case hQ7u42 => exact fun _ _ _ h => h
          case hw7u42 => rfl
          case hy7u42 => (intro w hSw; (try dsimp only at hSw); go_simp <;> with_reducible rfl)
          try simp only [Act.put, List.setIfInBounds_toArray, List.set_cons_zero, List.set_cons_succ]
          refine wpAnyH_take (i := 8) (oi := ?oi8u43) (v := ?v8u43) ?hi8u43 (by kernel_rfl) (by kernel_rfl) (by kernel_rfl) ?hQ8u43 (Or.inl ⟨?hw8u43, ?hy8u43⟩) hHeld ?rest8u43
          case hi8u43 => (simp only [List.getElem?_toArray, List.getElem?_cons_succ, List.getElem?_cons_zero]; exact rfl)
          case hQ8u43 => exact fun _ _ _ h => h
          case hw8u43 => rfl
          case hy8u43 => (intro w hSw; (try dsimp only at hSw); go_simp <;> with_reducible rfl)
          try simp only [Act.put, List.setIfInBounds_toArray, List.set_cons_zero, List.set_cons_succ]
          refine wpAnyH_take (i := 9) (oi := ?oi9u44) (v := ?v9u44) ?hi9u44 (by kernel_rfl) (by kernel_rfl) (by kernel_rfl) ?hQ9u44 (Or.inl ⟨?hw9u44, ?hy9u44⟩) hHeld ?rest9u44
          case hi9u44 => (simp only [List.getElem?_toArray, List.getElem?_cons_succ, List.getElem?_cons_zero]; exact rfl)
          case hQ9u44 => exact fun _ _ _ h => h
          case hw9u44 => rfl
          case hy9u44 => (intro w hSw; (try dsimp only at hSw); go_simp <;> with_reducible rfl)
          try simp only [Act.put, List.setIfInBounds_toArray, List.set_cons_zero, List.set_cons_succ]
          have HY := H4
          have Hz := Lib.hid ((hb4.block gb (block_lt HZ3.out)).trans HZ3.out)
          clear hb4
          generalize w4 = Y at *
          obtain ⟨z0, z1, z2, zl, zf0, zf1, zf2⟩ := cells3 Hz.out
          obtain ⟨F, hF, hzF, hkF⟩ := store_heap (A := A2) (n := hL2.length) (c := c2) (B := B1) (m := 0) (d := d1) (r := 7) Hz.out
          have HF := Lib.hid (HY.out.trans (hkF.bel.mono Hgb.out))
          have HC2F := Lib.hid (HC2.out.kq hkF (HC2.out.off_heap (by decide) Hz.out))
          have HI2F := Lib.hid (HI2.out.kq hkF (HI2.out.off_heap (by decide) Hz.out))
          have HzF := Lib.hid hzF
          refine held_one (i := 11) (o := ?oi11u45) (by kernel_rfl) ?hi11u45 (fun K hK => ?rest11u45)
          case hi11u45 => (simp only [List.getElem?_toArray, List.getElem?_cons_succ, List.getElem?_cons_zero]; exact rfl)
          go_simp
          rw [← hF]
          refine hK _ _ (HS.out _ HF.out) ?_
          clear hK K hHeld
          have hHeld := HS.out _ HF.out
          try simp only [Act.put, List.setIfInBounds_toArray, List.set_cons_zero, List.set_cons_succ]
          refine wpAnyH_take (i := 12) (oi := ?oi12u46) (v := ?v12u46) ?hi12u46 (by kernel_rfl) (by kernel_rfl) (by kernel_rfl) ?hQ12u46 (Or.inl ⟨?hw12u46, ?hy12u46⟩) hHeld ?rest12u46
          case hi12u46 => (simp only [List.getElem?_toArray, List.getElem?_cons_succ, List.getElem?_cons_zero]; exact rfl)
          case hQ12u46 => exact fun _ _ _ h => h
          case hw12u46 => rfl
          case hy12u46 => (intro w hSw; (try dsimp only at hSw); go_simp <;> with_reducible rfl)
          try simp only [Act.put, List.setIfInBounds_toArray, List.set_cons_zero, List.set_cons_succ]
          refine wpAnyH_take (i := 13) (oi := ?oi13u47) (v := ?v13u47) ?hi13u47 (by kernel_rfl) (by kernel_rfl) (by kernel_rfl) ?hQ13u47 (Or.inl ⟨?hw13u47, ?hy13u47⟩) hHeld ?rest13u47
          case hi13u47 => (simp only [List.getElem?_toArray, List.getElem?_cons_succ, List.getElem?_cons_zero]; exact rfl)
          case hQ13u47 => exact fun _ _ _ h => h
          case hw13u47 => rfl
          case hy13u47 => (intro w hSw; (try dsimp only at hSw); go_simp <;> with_reducible rfl)
          try simp only [Act.put, List.setIfInBounds_toArray, List.set_cons_zero, List.set_cons_succ]
          refine wpAnyH_take (i := 14) (oi := ?oi14u48) (v := ?v14u48) ?hi14u48 (by kernel_rfl) (by kernel_rfl) (by kernel_rfl) ?hQ14u48 (Or.inl ⟨?hw14u48, ?hy14u48⟩) hHeld ?rest14u48
          case hi14u48 => (simp only [List.getElem?_toArray, List.getElem?_cons_succ, List.getElem?_cons_zero]; exact rfl)
          case hQ14u48 => exact fun _ _ _ h => h
          case hw14u48 => rfl
          case hy14u48 => (intro w hSw; (try dsimp only at hSw); go_simp <;> with_reducible rfl)
          try simp only [Act.put, List.setIfInBounds_toArray, List.set_cons_zero, List.set_cons_succ]
          refine wpAnyH_done (by kernel_rfl) ?_ _
          clear hzF hkF hF z0 z1 z2 zl zf0 zf1 zf2 hHeld
          go_wp2_with fail
          go_meet
          exact ⟨gb, d2, D2, rfl, rfl, rfl, rfl, ⟨A2, c2, B1, d1, HzF.out, HC2F.out, HN1.out.below HF.out⟩, HI2F.out, HF.out⟩
    case rest =>
      obtain ⟨g2, e2, D2, rfl, rfl, rfl, rfl, hB2, hI2, hbn⟩ := hcut
      replace hb1 := hb1.trans (hbn.mono hb1.size)
      replace hB1 := hB1.below hbn
      replace hI1 := hI1.below hbn
      clear hbn
      generalize wc = X at *
      go_upto_region 3 with fail
      go_cut [9, 10, 11, 12] from 50 to 59 (fun _ _ _ v4 wx => v4 = .int .i64 80 ∧ Below X.heap.size X wx)
      case first =>
        obtain ⟨A1, c1, B1, d1, x1, hC1, hN1⟩ := hB2
        have HN1 := Lib.hid hN1
        have HC1 := Lib.hid hC1
        obtain ⟨D1', e1', hDD⟩ : ∃ D' e', IsI X D' 1 e' [1] ∧ D' = D2 ∧ e' = e2 := ⟨D2, e2, hI2, rfl, rfl⟩
        have HI1 := Lib.hid hI2
        obtain ⟨y0, y1, y2, yl⟩ := open3 x1
        refine wp_region_held_drew (S := fun w' => w'.cell? ⟨g2, 0, none⟩ = some (.slice A1 7 c1) ∧ w'.cell? ⟨g2, 1, none⟩ = some (.slice B1 0 d1) ∧ w'.cell? ⟨g2, 2, none⟩ = some (.int .i64 7)) (by kernel_rfl) ?gs3 ?gr3
        case gs3 => exact ⟨y0, y1, y2⟩
        case gr3 =>
          intro hHeld
          have hS : ∀ w', Below X.heap.size X w' → w'.cell? ⟨g2, 0, none⟩ = some (.slice A1 7 c1) ∧ w'.cell? ⟨g2, 1, none⟩ = some (.slice B1 0 d1) ∧ w'.cell? ⟨g2, 2, none⟩ = some (.int .i64 7) := fun w' hb => ⟨(hb.cell (p := ⟨g2, 0, none⟩) yl).trans y0, (hb.cell (p := ⟨g2, 1, none⟩) yl).trans y1, (hb.cell (p := ⟨g2, 2, none⟩) yl).trans y2⟩
          have HS := Lib.hid hS
          clear hS y0 y1 y2 yl x1 hC1 hN1 hI1 hI2 hB1 hDD
          have HV : Hid (Below X.heap.size X X.drew) := Lib.hid ((Below.refl _ _).drew)
          generalize X.drew = V at *

          refine wpAnyH_take (i := 0) (oi := ?oi0u49) (v := ?v0u49) ?hi0u49 (by kernel_rfl) (by kernel_rfl) (by kernel_rfl) ?hQ0u49 (Or.inl ⟨?hw0u49, ?hy0u49⟩) hHeld ?rest0u49
          case hi0u49 => (simp only [List.getElem?_toArray, List.getElem?_cons_succ, List.getElem?_cons_zero]; exact rfl)
          case hQ0u49 => exact fun _ _ _ h => h
          case hw0u49 => rfl
          case hy0u49 => (intro w hSw; (try dsimp only at hSw); go_simp <;> with_reducible rfl)
          try simp only [Act.put, List.setIfInBounds_toArray, List.set_cons_zero, List.set_cons_succ]
          refine wpAnyH_take (i := 3) (oi := ?oi3u50) (v := ?v3u50) ?hi3u50 (by kernel_rfl) (by kernel_rfl) (by kernel_rfl) ?hQ3u50 (Or.inl ⟨?hw3u50, ?hy3u50⟩) hHeld ?rest3u50
          case hi3u50 => (simp only [List.getElem?_toArray, List.getElem?_cons_succ, List.getElem?_cons_zero]; exact rfl)
          case hQ3u50 => exact fun _ _ _ h => h
          case hw3u50 => rfl
          case hy3u50 => (intro w hSw; (try dsimp only at hSw); go_simp <;> with_reducible rfl)
          try simp only [Act.put, List.setIfInBounds_toArray, List.set_cons_zero, List.set_cons_succ]
          refine held_two (i := 1) (j := 10) (oi := ?oi1u51) (oj := ?oi10u51) (by kernel_rfl) ?hi1u51 ?hi10u51 (fun K hK => ?rest1u51) (fun K hK => ?rest10u51)
          case hi1u51 => (simp only [List.getElem?_toArray, List.getElem?_cons_succ, List.getElem?_cons_zero]; exact rfl)
          case hi10u51 => (simp only [List.getElem?_toArray, List.getElem?_cons_succ, List.getElem?_cons_zero]; exact rfl)
          · go_simp
            go_at_call 35
            refine (cv8_any _ _).mono ?_
            rintro e w2 ⟨rfl, hb2⟩
            have H2 := Lib.hid (HV.out.trans (hb2.mono HV.out.size))
            try go_simp
            refine hK _ _ (HS.out _ H2.out) ?_
            clear hK K hHeld
            have hHeld := HS.out _ H2.out
            try simp only [Act.put, List.setIfInBounds_toArray, List.set_cons_zero, List.set_cons_succ]
            refine held_two (i := 2) (j := 10) (oi := ?oi2u52) (oj := ?oi10u52) (by kernel_rfl) ?hi2u52 ?hi10u52 (fun K hK => ?rest2u52) (fun K hK => ?rest10u52)
            case hi2u52 => (simp only [List.getElem?_toArray, List.getElem?_cons_succ, List.getElem?_cons_zero]; exact rfl)
            case hi10u52 => (simp only [List.getElem?_toArray, List.getElem?_cons_succ, List.getElem?_cons_zero]; exact rfl)
            · go_simp
              refine hK _ _ (HS.out ((w2.alloc (.cells #[.int .i64 1, .string ⟨#[]⟩, .int .i64 1] 54))) (H2.out.alloc H2.out.size _)) ?_
              clear hK K hHeld
              have hHeld := HS.out ((w2.alloc (.cells #[.int .i64 1, .string ⟨#[]⟩, .int .i64 1] 54))) (H2.out.alloc H2.out.size _)
              try simp only [Act.put, List.setIfInBounds_toArray, List.set_cons_zero, List.set_cons_succ]
              have H3 := Lib.hid (H2.out.alloc H2.out.size (.cells #[.int .i64 1, .string ⟨#[]⟩, .int .i64 1] 54))
              have HL := Lib.hid (isC_lit8 (n := 1) (l := [⟨1, ⟨#[]⟩, 1⟩]) (alloc_at (w := w2) (o := .cells #[.int .i64 1, .string ⟨#[]⟩, .int .i64 1] 54) rfl) rfl rfl (by omega) (cells_wf8 (by decide)))
              try trivial
              generalize (w2.alloc (.cells #[.int .i64 1, .string ⟨#[]⟩, .int .i64 1] 54)) = w3 at *
              generalize w2.heap.size = gl at *
              refine held_two (i := 4) (j := 10) (oi := ?oi4u53) (oj := ?oi10u53) (by kernel_rfl) ?hi4u53 ?hi10u53 (fun K hK => ?rest4u53) (fun K hK => ?rest10u53)
              case hi4u53 => (simp only [List.getElem?_toArray, List.getElem?_cons_succ, List.getElem?_cons_zero]; exact rfl)
              case hi10u53 => (simp only [List.getElem?_toArray, List.getElem?_cons_succ, List.getElem?_cons_zero]; exact rfl)
              · go_simp
                go_at_call 19
                refine (put_no (hPut_any (.v 1) A1 B1 D2 (some ⟨gl, 0, none⟩) 7 c1 0 d1 1 e2 1 1 7 hL2 [1] w3 (HC1.out.below H3.out) HL.out (HI1.out.below H3.out) okT3 (by decide) (by omega) (by omega)) (by rw [hput3]; decide)).mono ?_
                rintro e w4 ⟨rfl, hb4⟩
                have H4 := Lib.hid (H3.out.trans (hb4.mono H3.out.size))
                try trivial
                try go_simp
                refine hK _ _ (HS.out _ H4.out) ?_
                clear hK K hHeld
                have hHeld := HS.out _ H4.out
                try simp only [Act.put, List.setIfInBounds_toArray, List.set_cons_zero, List.set_cons_succ]
                refine wpAnyH_take (i := 5) (oi := ?oi5u54) (v := ?v5u54) ?hi5u54 (by kernel_rfl) (by kernel_rfl) (by kernel_rfl) ?hQ5u54 (Or.inl ⟨?hw5u54, ?hy5u54⟩) hHeld ?rest5u54
                case hi5u54 => (simp only [List.getElem?_toArray, List.getElem?_cons_succ, List.getElem?_cons_zero]; exact rfl)
                case hQ5u54 => exact fun _ _ _ h => h
                case hw5u54 => rfl
                case hy5u54 => (intro w hSw; (try dsimp only at hSw); go_simp <;> with_reducible rfl)
                try simp only [Act.put, List.setIfInBounds_toArray, List.set_cons_zero, List.set_cons_succ]
                refine wpAnyH_take (i := 6) (oi := ?oi6u55) (v := ?v6u55) ?hi6u55 (by kernel_rfl) (by kernel_rfl) (by kernel_rfl) ?hQ6u55 (Or.inl ⟨?hw6u55, ?hy6u55⟩) hHeld ?rest6u55
                case hi6u55 => (simp only [List.getElem?_toArray, List.getElem?_cons_succ, List.getElem?_cons_zero]; exact rfl)
                case hQ6u55 => exact fun _ _ _ h => h
                case hw6u55 => rfl
                case hy6u55 => (intro w hSw; (try dsimp only at hSw); go_simp <;> with_reducible rfl)
                try simp only [Act.put, List.setIfInBounds_toArray, List.set_cons_zero, List.set_cons_succ]
                refine wpAnyH_take (i := 7) (oi := ?oi7u56) (v := ?v7u56) ?hi7u56 (by kernel_rfl) (by kernel_rfl) (by kernel_rfl) ?hQ7u56 (Or.inl ⟨?hw7u56, ?hy7u56⟩) hHeld ?rest7u56
                case hi7u56 => (simp only [List.getElem?_toArray, List.getElem?_cons_succ, List.getElem?_cons_zero]; exact rfl)
                case hQ7u56 => exact fun _ _ _ h => h
                case hw7u56 => rfl
                case hy7u56 => (intro w hSw; (try dsimp only at hSw); go_simp <;> with_reducible rfl)
                try simp only [Act.put, List.setIfInBounds_toArray, List.set_cons_zero, List.set_cons_succ]
                refine wpAnyH_take (i := 8) (oi := ?oi8u57) (v := ?v8u57) ?hi8u57 (by kernel_rfl) (by kernel_rfl) (by kernel_rfl) ?hQ8u57 (Or.inl ⟨?hw8u57, ?hy8u57⟩) hHeld ?rest8u57
                case hi8u57 => (simp only [List.getElem?_toArray, List.getElem?_cons_succ, List.getElem?_cons_zero]; exact rfl)
                case hQ8u57 => exact fun _ _ _ h => h
                case hw8u57 => rfl
                case hy8u57 => (intro w hSw; (try dsimp only at hSw); go_simp <;> with_reducible rfl)
                try simp only [Act.put, List.setIfInBounds_toArray, List.set_cons_zero, List.set_cons_succ]
                refine wpAnyH_take (i := 9) (oi := ?oi9u58) (v := ?v9u58) ?hi9u58 (by kernel_rfl) (by kernel_rfl) (by kernel_rfl) ?hQ9u58 (Or.inl ⟨?hw9u58, ?hy9u58⟩) hHeld ?rest9u58
                case hi9u58 => (simp only [List.getElem?_toArray, List.getElem?_cons_succ, List.getElem?_cons_zero]; exact rfl)
                case hQ9u58 => exact fun _ _ _ h => h
                case hw9u58 => rfl
                case hy9u58 => (intro w hSw; (try dsimp only at hSw); go_simp <;> with_reducible rfl)
                try simp only [Act.put, List.setIfInBounds_toArray, List.set_cons_zero, List.set_cons_succ]
                refine held_one (i := 10) (o := ?oi10u59) (by kernel_rfl) ?hi10u59 (fun K hK => ?rest10u59)
                case hi10u59 => (simp only [List.getElem?_toArray, List.getElem?_cons_succ, List.getElem?_cons_zero]; exact rfl)
                go_simp
                refine hK _ _ (HS.out ((w4.alloc Oz)) (H4.out.alloc H4.out.size _)) ?_
                clear hK K hHeld
                have hHeld := HS.out ((w4.alloc Oz)) (H4.out.alloc H4.out.size _)
                try simp only [Act.put, List.setIfInBounds_toArray, List.set_cons_zero, List.set_cons_succ]
                have HO := Lib.hid (H4.out.alloc H4.out.size Oz)
                have HZ := Lib.hid (show (w4.alloc Oz).heap[w4.heap.size]? = some (.cells #[.slice none 0 0, .slice none 0 0, .int .i64 0] 25 (0, 0)) from alloc_at rfl)
                have Hgb : Hid (X.heap.size ≤ w4.heap.size) := Lib.hid H4.out.size
                have HY := HO
                have Hz := HZ
                try trivial
                generalize w4.alloc Oz = Y at *
                generalize w4.heap.size = gb at *
                obtain ⟨z0, z1, z2, zl, zf0, zf1, zf2⟩ := cells3 Hz.out
                obtain ⟨F, hF, hzF, hkF⟩ := store_heap (A := A1) (n := 7) (c := c1) (B := B1) (m := 0) (d := d1) (r := 7) Hz.out
                have HF := Lib.hid (HY.out.trans (hkF.bel.mono Hgb.out))
                try trivial
                have HzF := Lib.hid hzF
                refine held_one (i := 11) (o := ?oi11u60) (by kernel_rfl) ?hi11u60 (fun K hK => ?rest11u60)
                case hi11u60 => (simp only [List.getElem?_toArray, List.getElem?_cons_succ, List.getElem?_cons_zero]; exact rfl)
                go_simp
                rw [← hF]
                refine hK _ _ (HS.out _ HF.out) ?_
                clear hK K hHeld
                have hHeld := HS.out _ HF.out
                try simp only [Act.put, List.setIfInBounds_toArray, List.set_cons_zero, List.set_cons_succ]
                refine wpAnyH_take (i := 12) (oi := ?oi12u61) (v := ?v12u61) ?hi12u61 (by kernel_rfl) (by kernel_rfl) (by kernel_rfl) ?hQ12u61 (Or.inl ⟨?hw12u61, ?hy12u61⟩) hHeld ?rest12u61
                case hi12u61 => (simp only [List.getElem?_toArray, List.getElem?_cons_succ, List.getElem?_cons_zero]; exact rfl)
                case hQ12u61 => exact fun _ _ _ h => h
                case hw12u61 => rfl
                case hy12u61 => (intro w hSw; (try dsimp only at hSw); go_simp <;> with_reducible rfl)
                try simp only [Act.put, List.setIfInBounds_toArray, List.set_cons_zero, List.set_cons_succ]
                refine wpAnyH_take (i := 13) (oi := ?oi13u62) (v := ?v13u62) ?hi13u62 (by kernel_rfl) (by kernel_rfl) (by kernel_rfl) ?hQ13u62 (Or.inl ⟨?hw13u62, ?hy13u62⟩) hHeld ?rest13u62
                case hi13u62 => (simp only [List.getElem?_toArray, List.getElem?_cons_succ, List.getElem?_cons_zero]; exact rfl)
                case hQ13u62 => exact fun _ _ _ h => h
                case hw13u62 => rfl
                case hy13u62 => (intro w hSw; (try dsimp only at hSw); go_simp <;> with_reducible rfl)
                try simp only [Act.put, List.setIfInBounds_toArray, List.set_cons_zero, List.set_cons_succ]
                refine wpAnyH_take (i := 14) (oi := ?oi14u63) (v := ?v14u63) ?hi14u63 (by kernel_rfl) (by kernel_rfl) (by kernel_rfl) ?hQ14u63 (Or.inl ⟨?hw14u63, ?hy14u63⟩) hHeld ?rest14u63
                case hi14u63 => (simp only [List.getElem?_toArray, List.getElem?_cons_succ, List.getElem?_cons_zero]; exact rfl)
                case hQ14u63 => exact fun _ _ _ h => h
                case hw14u63 => rfl
                case hy14u63 => (intro w hSw; (try dsimp only at hSw); go_simp <;> with_reducible rfl)
                try simp only [Act.put, List.setIfInBounds_toArray, List.set_cons_zero, List.set_cons_succ]
                refine wpAnyH_done (by kernel_rfl) ?_ _
                clear hzF hkF hF z0 z1 z2 zl zf0 zf1 zf2 hHeld
                go_wp2_with fail
                go_meet
                exact ⟨rfl, HF.out⟩
              · go_simp
                refine hK _ _ (HS.out ((w3.alloc Oz)) (H3.out.alloc H3.out.size _)) ?_
                clear hK K hHeld
                have hHeld := HS.out ((w3.alloc Oz)) (H3.out.alloc H3.out.size _)
                try simp only [Act.put, List.setIfInBounds_toArray, List.set_cons_zero, List.set_cons_succ]
                have HO := Lib.hid (H3.out.alloc H3.out.size Oz)
                have HZ := Lib.hid (show (w3.alloc Oz).heap[w3.heap.size]? = some (.cells #[.slice none 0 0, .slice none 0 0, .int .i64 0] 25 (0, 0)) from alloc_at rfl)
                have Hgb : Hid (X.heap.size ≤ w3.heap.size) := Lib.hid H3.out.size
                have HL3 := Lib.hid (HL.out.below (bas w3 Oz))
                generalize w3.alloc Oz = w5 at *
                generalize w3.heap.size = gb at *
                refine held_one (i := 4) (o := ?oi4u64) (by kernel_rfl) ?hi4u64 (fun K hK => ?rest4u64)
                case hi4u64 => (simp only [List.getElem?_toArray, List.getElem?_cons_succ, List.getElem?_cons_zero]; exact rfl)
                go_simp
                go_at_call 19
                refine (put_no (hPut_any (.v 1) A1 B1 D2 (some ⟨gl, 0, none⟩) 7 c1 0 d1 1 e2 1 1 7 hL2 [1] w5 (HC1.out.below HO.out) HL3.out (HI1.out.below HO.out) okT3 (by decide) (by omega) (by omega)) (by rw [hput3]; decide)).mono ?_
                rintro e w4 ⟨rfl, hb4⟩
                have H4 := Lib.hid (HO.out.trans (hb4.mono HO.out.size))
                try trivial
                try go_simp
                refine hK _ _ (HS.out _ H4.out) ?_
                clear hK K hHeld
                have hHeld := HS.out _ H4.out
                try simp only [Act.put, List.setIfInBounds_toArray, List.set_cons_zero, List.set_cons_succ]
                refine wpAnyH_take (i := 5) (oi := ?oi5u65) (v := ?v5u65) ?hi5u65 (by kernel_rfl) (by kernel_rfl) (by kernel_rfl) ?hQ5u65 (Or.inl ⟨?hw5u65, ?hy5u65⟩) hHeld ?rest5u65
                case hi5u65 => (simp only [List.getElem?_toArray, List.getElem?_cons_succ, List.getElem?_cons_zero]; exact rfl)
                case hQ5u65 => exact fun _ _ _ h => h
                case hw5u65 => rfl
                case hy5u65 => (intro w hSw; (try dsimp only at hSw); go_simp <;> with_reducible rfl)
                try simp only [Act.put, List.setIfInBounds_toArray, List.set_cons_zero, List.set_cons_succ]
                refine wpAnyH_take (i := 6) (oi := ?oi6u66) (v := ?v6u66) ?hi6u66 (by kernel_rfl) (by kernel_rfl) (by kernel_rfl) ?hQ6u66 (Or.inl ⟨?hw6u66, ?hy6u66⟩) hHeld ?rest6u66
                case hi6u66 => (simp only [List.getElem?_toArray, List.getElem?_cons_succ, List.getElem?_cons_zero]; exact rfl)
                case hQ6u66 => exact fun _ _ _ h => h
                case hw6u66 => rfl
                case hy6u66 => (intro w hSw; (try dsimp only at hSw); go_simp <;> with_reducible rfl)
                try simp only [Act.put, List.setIfInBounds_toArray, List.set_cons_zero, List.set_cons_succ]
                refine wpAnyH_take (i := 7) (oi := ?oi7u67) (v := ?v7u67) ?hi7u67 (by kernel_rfl) (by kernel_rfl) (by kernel_rfl) ?hQ7u67 (Or.inl ⟨?hw7u67, ?hy7u67⟩) hHeld ?rest7u67
                case hi7u67 => (simp only [List.getElem?_toArray, List.getElem?_cons_succ, List.getElem?_cons_zero]; exact rfl)
                case hQ7u67 => exact fun _ _ _ h => h
                case hw7u67 => rfl
                case hy7u67 => (intro w hSw; (try dsimp only at hSw); go_simp <;> with_reducible rfl)
                try simp only [Act.put, List.setIfInBounds_toArray, List.set_cons_zero, List.set_cons_succ]
                refine wpAnyH_take (i := 8) (oi := ?oi8u68) (v := ?v8u68) ?hi8u68 (by kernel_rfl) (by kernel_rfl) (by kernel_rfl) ?hQ8u68 (Or.inl ⟨?hw8u68, ?hy8u68⟩) hHeld ?rest8u68
                case hi8u68 => (simp only [List.getElem?_toArray, List.getElem?_cons_succ, List.getElem?_cons_zero]; exact rfl)
                case hQ8u68 => exact fun _ _ _ h => h
                case hw8u68 => rfl
                case hy8u68 => (intro w hSw; (try dsimp only at hSw); go_simp <;> with_reducible rfl)
                try simp only [Act.put, List.setIfInBounds_toArray, List.set_cons_zero, List.set_cons_succ]
                refine wpAnyH_take (i := 9) (oi := ?oi9u69) (v := ?v9u69) ?hi9u69 (by kernel_rfl) (by kernel_rfl) (by kernel_rfl) ?hQ9u69 (Or.inl ⟨?hw9u69, ?hy9u69⟩) hHeld ?rest9u69
                case hi9u69 => (simp only [List.getElem?_toArray, List.getElem?_cons_succ, List.getElem?_cons_zero]; exact rfl)
                case hQ9u69 => exact fun _ _ _ h => h
                case hw9u69 => rfl
                case hy9u69 => (intro w hSw; (try dsimp only at hSw); go_simp <;> with_reducible rfl)
                try simp only [Act.put, List.setIfInBounds_toArray, List.set_cons_zero, List.set_cons_succ]
                have HY := H4
                have Hz := Lib.hid ((hb4.block gb (block_lt HZ.out)).trans HZ.out)
                clear hb4
                generalize w4 = Y at *
                obtain ⟨z0, z1, z2, zl, zf0, zf1, zf2⟩ := cells3 Hz.out
                obtain ⟨F, hF, hzF, hkF⟩ := store_heap (A := A1) (n := 7) (c := c1) (B := B1) (m := 0) (d := d1) (r := 7) Hz.out
                have HF := Lib.hid (HY.out.trans (hkF.bel.mono Hgb.out))
                try trivial
                have HzF := Lib.hid hzF
                refine held_one (i := 11) (o := ?oi11u70) (by kernel_rfl) ?hi11u70 (fun K hK => ?rest11u70)
                case hi11u70 => (simp only [List.getElem?_toArray, List.getElem?_cons_succ, List.getElem?_cons_zero]; exact rfl)
                go_simp
                rw [← hF]
                refine hK _ _ (HS.out _ HF.out) ?_
                clear hK K hHeld
                have hHeld := HS.out _ HF.out
                try simp only [Act.put, List.setIfInBounds_toArray, List.set_cons_zero, List.set_cons_succ]
                refine wpAnyH_take (i := 12) (oi := ?oi12u71) (v := ?v12u71) ?hi12u71 (by kernel_rfl) (by kernel_rfl) (by kernel_rfl) ?hQ12u71 (Or.inl ⟨?hw12u71, ?hy12u71⟩) hHeld ?rest12u71
                case hi12u71 => (simp only [List.getElem?_toArray, List.getElem?_cons_succ, List.getElem?_cons_zero]; exact rfl)
                case hQ12u71 => exact fun _ _ _ h => h
                case hw12u71 => rfl
                case hy12u71 => (intro w hSw; (try dsimp only at hSw); go_simp <;> with_reducible rfl)
                try simp only [Act.put, List.setIfInBounds_toArray, List.set_cons_zero, List.set_cons_succ]
                refine wpAnyH_take (i := 13) (oi := ?oi13u72) (v := ?v13u72) ?hi13u72 (by kernel_rfl) (by kernel_rfl) (by kernel_rfl) ?hQ13u72 (Or.inl ⟨?hw13u72, ?hy13u72⟩) hHeld ?rest13u72
                case hi13u72 => (simp only [List.getElem?_toArray, List.getElem?_cons_succ, List.getElem?_cons_zero]; exact rfl)
                case hQ13u72 => exact fun _ _ _ h => h
                case hw13u72 => rfl
                case hy13u72 => (intro w hSw; (try dsimp only at hSw); go_simp <;> with_reducible rfl)
                try simp only [Act.put, List.setIfInBounds_toArray, List.set_cons_zero, List.set_cons_succ]
                refine wpAnyH_take (i := 14) (oi := ?oi14u73) (v := ?v14u73) ?hi14u73 (by kernel_rfl) (by kernel_rfl) (by kernel_rfl) ?hQ14u73 (Or.inl ⟨?hw14u73, ?hy14u73⟩) hHeld ?rest14u73
                case hi14u73 => (simp only [List.getElem?_toArray, List.getElem?_cons_succ, List.getElem?_cons_zero]; exact rfl)
                case hQ14u73 => exact fun _ _ _ h => h
                case hw14u73 => rfl
                case hy14u73 => (intro w hSw; (try dsimp only at hSw); go_simp <;> with_reducible rfl)
                try simp only [Act.put, List.setIfInBounds_toArray, List.set_cons_zero, List.set_cons_succ]
                refine wpAnyH_done (by kernel_rfl) ?_ _
                clear hzF hkF hF z0 z1 z2 zl zf0 zf1 zf2 hHeld
                go_wp2_with fail
                go_meet
                exact ⟨rfl, HF.out⟩
            · go_simp
              refine hK _ _ (HS.out ((w2.alloc Oz)) (H2.out.alloc H2.out.size _)) ?_
              clear hK K hHeld
              have hHeld := HS.out ((w2.alloc Oz)) (H2.out.alloc H2.out.size _)
              try simp only [Act.put, List.setIfInBounds_toArray, List.set_cons_zero, List.set_cons_succ]
              have HO := Lib.hid (H2.out.alloc H2.out.size Oz)
              have HZ := Lib.hid (show (w2.alloc Oz).heap[w2.heap.size]? = some (.cells #[.slice none 0 0, .slice none 0 0, .int .i64 0] 25 (0, 0)) from alloc_at rfl)
              have Hgb : Hid (X.heap.size ≤ w2.heap.size) := Lib.hid H2.out.size
              clear H2
              have H2 := HO
              clear HO
              generalize w2.heap.size = gb at *
              generalize w2.alloc Oz = w2 at *
              refine held_one (i := 2) (o := ?oi2u74) (by kernel_rfl) ?hi2u74 (fun K hK => ?rest2u74)
              case hi2u74 => (simp only [List.getElem?_toArray, List.getElem?_cons_succ, List.getElem?_cons_zero]; exact rfl)
              go_simp
              refine hK _ _ (HS.out ((w2.alloc (.cells #[.int .i64 1, .string ⟨#[]⟩, .int .i64 1] 54))) (H2.out.alloc H2.out.size _)) ?_
              clear hK K hHeld
              have hHeld := HS.out ((w2.alloc (.cells #[.int .i64 1, .string ⟨#[]⟩, .int .i64 1] 54))) (H2.out.alloc H2.out.size _)
              try simp only [Act.put, List.setIfInBounds_toArray, List.set_cons_zero, List.set_cons_succ]
              have H3 := Lib.hid (H2.out.alloc H2.out.size (.cells #[.int .i64 1, .string ⟨#[]⟩, .int .i64 1] 54))
              have HL := Lib.hid (isC_lit8 (n := 1) (l := [⟨1, ⟨#[]⟩, 1⟩]) (alloc_at (w := w2) (o := .cells #[.int .i64 1, .string ⟨#[]⟩, .int .i64 1] 54) rfl) rfl rfl (by omega) (cells_wf8 (by decide)))
              have HZ3 := Lib.hid ((bas w2 (.cells #[.int .i64 1, .string ⟨#[]⟩, .int .i64 1] 54)).block gb (block_lt HZ.out) |>.trans HZ.out)
              generalize (w2.alloc (.cells #[.int .i64 1, .string ⟨#[]⟩, .int .i64 1] 54)) = w3 at *
              generalize w2.heap.size = gl at *
              refine held_one (i := 4) (o := ?oi4u75) (by kernel_rfl) ?hi4u75 (fun K hK => ?rest4u75)
              case hi4u75 => (simp only [List.getElem?_toArray, List.getElem?_cons_succ, List.getElem?_cons_zero]; exact rfl)
              go_simp
              go_at_call 19
              refine (put_no (hPut_any (.v 1) A1 B1 D2 (some ⟨gl, 0, none⟩) 7 c1 0 d1 1 e2 1 1 7 hL2 [1] w3 (HC1.out.below H3.out) HL.out (HI1.out.below H3.out) okT3 (by decide) (by omega) (by omega)) (by rw [hput3]; decide)).mono ?_
              rintro e w4 ⟨rfl, hb4⟩
              have H4 := Lib.hid (H3.out.trans (hb4.mono H3.out.size))
              try trivial
              try go_simp
              refine hK _ _ (HS.out _ H4.out) ?_
              clear hK K hHeld
              have hHeld := HS.out _ H4.out
              try simp only [Act.put, List.setIfInBounds_toArray, List.set_cons_zero, List.set_cons_succ]
              refine wpAnyH_take (i := 5) (oi := ?oi5u76) (v := ?v5u76) ?hi5u76 (by kernel_rfl) (by kernel_rfl) (by kernel_rfl) ?hQ5u76 (Or.inl ⟨?hw5u76, ?hy5u76⟩) hHeld ?rest5u76
              case hi5u76 => (simp only [List.getElem?_toArray, List.getElem?_cons_succ, List.getElem?_cons_zero]; exact rfl)
              case hQ5u76 => exact fun _ _ _ h => h
              case hw5u76 => rfl
              case hy5u76 => (intro w hSw; (try dsimp only at hSw); go_simp <;> with_reducible rfl)
              try simp only [Act.put, List.setIfInBounds_toArray, List.set_cons_zero, List.set_cons_succ]
              refine wpAnyH_take (i := 6) (oi := ?oi6u77) (v := ?v6u77) ?hi6u77 (by kernel_rfl) (by kernel_rfl) (by kernel_rfl) ?hQ6u77 (Or.inl ⟨?hw6u77, ?hy6u77⟩) hHeld ?rest6u77
              case hi6u77 => (simp only [List.getElem?_toArray, List.getElem?_cons_succ, List.getElem?_cons_zero]; exact rfl)
              case hQ6u77 => exact fun _ _ _ h => h
              case hw6u77 => rfl
              case hy6u77 => (intro w hSw; (try dsimp only at hSw); go_simp <;> with_reducible rfl)
              try simp only [Act.put, List.setIfInBounds_toArray, List.set_cons_zero, List.set_cons_succ]
              refine wpAnyH_take (i := 7) (oi := ?oi7u78) (v := ?v7u78) ?hi7u78 (by kernel_rfl) (by kernel_rfl) (by kernel_rfl) ?hQ7u78 (Or.inl ⟨?hw7u78, ?hy7u78⟩) hHeld ?rest7u78
              case hi7u78 => (simp only [List.getElem?_toArray, List.getElem?_cons_succ, List.getElem?_cons_zero]; exact rfl)
              case hQ7u78 => exact fun _ _ _ h => h
              case hw7u78 => rfl
              case hy7u78 => (intro w hSw; (try dsimp only at hSw); go_simp <;> with_reducible rfl)
              try simp only [Act.put, List.setIfInBounds_toArray, List.set_cons_zero, List.set_cons_succ]
              refine wpAnyH_take (i := 8) (oi := ?oi8u79) (v := ?v8u79) ?hi8u79 (by kernel_rfl) (by kernel_rfl) (by kernel_rfl) ?hQ8u79 (Or.inl ⟨?hw8u79, ?hy8u79⟩) hHeld ?rest8u79
              case hi8u79 => (simp only [List.getElem?_toArray, List.getElem?_cons_succ, List.getElem?_cons_zero]; exact rfl)
              case hQ8u79 => exact fun _ _ _ h => h
              case hw8u79 => rfl
              case hy8u79 => (intro w hSw; (try dsimp only at hSw); go_simp <;> with_reducible rfl)
              try simp only [Act.put, List.setIfInBounds_toArray, List.set_cons_zero, List.set_cons_succ]
              refine wpAnyH_take (i := 9) (oi := ?oi9u80) (v := ?v9u80) ?hi9u80 (by kernel_rfl) (by kernel_rfl) (by kernel_rfl) ?hQ9u80 (Or.inl ⟨?hw9u80, ?hy9u80⟩) hHeld ?rest9u80
              case hi9u80 => (simp only [List.getElem?_toArray, List.getElem?_cons_succ, List.getElem?_cons_zero]; exact rfl)
              case hQ9u80 => exact fun _ _ _ h => h
              case hw9u80 => rfl
              case hy9u80 => (intro w hSw; (try dsimp only at hSw); go_simp <;> with_reducible rfl)
              try simp only [Act.put, List.setIfInBounds_toArray, List.set_cons_zero, List.set_cons_succ]
              have HY := H4
              have Hz := Lib.hid ((hb4.block gb (block_lt HZ3.out)).trans HZ3.out)
              clear hb4
              generalize w4 = Y at *
              obtain ⟨z0, z1, z2, zl, zf0, zf1, zf2⟩ := cells3 Hz.out
              obtain ⟨F, hF, hzF, hkF⟩ := store_heap (A := A1) (n := 7) (c := c1) (B := B1) (m := 0) (d := d1) (r := 7) Hz.out
              have HF := Lib.hid (HY.out.trans (hkF.bel.mono Hgb.out))
              try trivial
              have HzF := Lib.hid hzF
              refine held_one (i := 11) (o := ?oi11u81) (by kernel_rfl) ?hi11u81 (fun K hK => ?rest11u81)
              case hi11u81 => (simp only [List.getElem?_toArray, List.getElem?_cons_succ, List.getElem?_cons_zero]; exact rfl)
              go_simp
              rw [← hF]
              refine hK _ _ (HS.out _ HF.out) ?_
              clear hK K hHeld
              have hHeld := HS.out _ HF.out
              try simp only [Act.put, List.setIfInBounds_toArray, List.set_cons_zero, List.set_cons_succ]
              refine wpAnyH_take (i := 12) (oi := ?oi12u82) (v := ?v12u82) ?hi12u82 (by kernel_rfl) (by kernel_rfl) (by kernel_rfl) ?hQ12u82 (Or.inl ⟨?hw12u82, ?hy12u82⟩) hHeld ?rest12u82
              case hi12u82 => (simp only [List.getElem?_toArray, List.getElem?_cons_succ, List.getElem?_cons_zero]; exact rfl)
              case hQ12u82 => exact fun _ _ _ h => h
              case hw12u82 => rfl
              case hy12u82 => (intro w hSw; (try dsimp only at hSw); go_simp <;> with_reducible rfl)
              try simp only [Act.put, List.setIfInBounds_toArray, List.set_cons_zero, List.set_cons_succ]
              refine wpAnyH_take (i := 13) (oi := ?oi13u83) (v := ?v13u83) ?hi13u83 (by kernel_rfl) (by kernel_rfl) (by kernel_rfl) ?hQ13u83 (Or.inl ⟨?hw13u83, ?hy13u83⟩) hHeld ?rest13u83
              case hi13u83 => (simp only [List.getElem?_toArray, List.getElem?_cons_succ, List.getElem?_cons_zero]; exact rfl)
              case hQ13u83 => exact fun _ _ _ h => h
              case hw13u83 => rfl
              case hy13u83 => (intro w hSw; (try dsimp only at hSw); go_simp <;> with_reducible rfl)
              try simp only [Act.put, List.setIfInBounds_toArray, List.set_cons_zero, List.set_cons_succ]
              refine wpAnyH_take (i := 14) (oi := ?oi14u84) (v := ?v14u84) ?hi14u84 (by kernel_rfl) (by kernel_rfl) (by kernel_rfl) ?hQ14u84 (Or.inl ⟨?hw14u84, ?hy14u84⟩) hHeld ?rest14u84
              case hi14u84 => (simp only [List.getElem?_toArray, List.getElem?_cons_succ, List.getElem?_cons_zero]; exact rfl)
              case hQ14u84 => exact fun _ _ _ h => h
              case hw14u84 => rfl
              case hy14u84 => (intro w hSw; (try dsimp only at hSw); go_simp <;> with_reducible rfl)
              try simp only [Act.put, List.setIfInBounds_toArray, List.set_cons_zero, List.set_cons_succ]
              refine wpAnyH_done (by kernel_rfl) ?_ _
              clear hzF hkF hF z0 z1 z2 zl zf0 zf1 zf2 hHeld
              go_wp2_with fail
              go_meet
              exact ⟨rfl, HF.out⟩
          · go_simp
            refine hK _ _ (HS.out ((V.alloc Oz)) (HV.out.alloc HV.out.size _)) ?_
            clear hK K hHeld
            have hHeld := HS.out ((V.alloc Oz)) (HV.out.alloc HV.out.size _)
            try simp only [Act.put, List.setIfInBounds_toArray, List.set_cons_zero, List.set_cons_succ]
            have HO := Lib.hid (HV.out.alloc HV.out.size Oz)
            have HZ := Lib.hid (show (V.alloc Oz).heap[V.heap.size]? = some (.cells #[.slice none 0 0, .slice none 0 0, .int .i64 0] 25 (0, 0)) from alloc_at rfl)
            have Hgb : Hid (X.heap.size ≤ V.heap.size) := Lib.hid HV.out.size
            clear HV
            have HV := HO
            clear HO
            generalize V.heap.size = gb at *
            generalize V.alloc Oz = V at *
            refine held_one (i := 1) (o := ?oi1u85) (by kernel_rfl) ?hi1u85 (fun K hK => ?rest1u85)
            case hi1u85 => (simp only [List.getElem?_toArray, List.getElem?_cons_succ, List.getElem?_cons_zero]; exact rfl)
            go_simp
            go_at_call 35
            refine (cv8_any _ _).mono ?_
            rintro e w2 ⟨rfl, hb2⟩
            have H2 := Lib.hid (HV.out.trans (hb2.mono HV.out.size))
            try go_simp
            refine hK _ _ (HS.out _ H2.out) ?_
            clear hK K hHeld
            have hHeld := HS.out _ H2.out
            try simp only [Act.put, List.setIfInBounds_toArray, List.set_cons_zero, List.set_cons_succ]
            have HZ2 := Lib.hid ((hb2.block gb (block_lt HZ.out)).trans HZ.out)
            clear hb2
            refine held_one (i := 2) (o := ?oi2u86) (by kernel_rfl) ?hi2u86 (fun K hK => ?rest2u86)
            case hi2u86 => (simp only [List.getElem?_toArray, List.getElem?_cons_succ, List.getElem?_cons_zero]; exact rfl)
            go_simp
            refine hK _ _ (HS.out ((w2.alloc (.cells #[.int .i64 1, .string ⟨#[]⟩, .int .i64 1] 54))) (H2.out.alloc H2.out.size _)) ?_
            clear hK K hHeld
            have hHeld := HS.out ((w2.alloc (.cells #[.int .i64 1, .string ⟨#[]⟩, .int .i64 1] 54))) (H2.out.alloc H2.out.size _)
            try simp only [Act.put, List.setIfInBounds_toArray, List.set_cons_zero, List.set_cons_succ]
            have H3 := Lib.hid (H2.out.alloc H2.out.size (.cells #[.int .i64 1, .string ⟨#[]⟩, .int .i64 1] 54))
            have HL := Lib.hid (isC_lit8 (n := 1) (l := [⟨1, ⟨#[]⟩, 1⟩]) (alloc_at (w := w2) (o := .cells #[.int .i64 1, .string ⟨#[]⟩, .int .i64 1] 54) rfl) rfl rfl (by omega) (cells_wf8 (by decide)))
            have HZ3 := Lib.hid ((bas w2 (.cells #[.int .i64 1, .string ⟨#[]⟩, .int .i64 1] 54)).block gb (block_lt HZ2.out) |>.trans HZ2.out)
            generalize (w2.alloc (.cells #[.int .i64 1, .string ⟨#[]⟩, .int .i64 1] 54)) = w3 at *
            generalize w2.heap.size = gl at *
            refine held_one (i := 4) (o := ?oi4u87) (by kernel_rfl) ?hi4u87 (fun K hK => ?rest4u87)
            case hi4u87 => (simp only [List.getElem?_toArray, List.getElem?_cons_succ, List.getElem?_cons_zero]; exact rfl)
            go_simp
            go_at_call 19
            refine (put_no (hPut_any (.v 1) A1 B1 D2 (some ⟨gl, 0, none⟩) 7 c1 0 d1 1 e2 1 1 7 hL2 [1] w3 (HC1.out.below H3.out) HL.out (HI1.out.below H3.out) okT3 (by decide) (by omega) (by omega)) (by rw [hput3]; decide)).mono ?_
            rintro e w4 ⟨rfl, hb4⟩
            have H4 := Lib.hid (H3.out.trans (hb4.mono H3.out.size))
            try trivial
            try go_simp
            refine hK _ _ (HS.out _ H4.out) ?_
            clear hK K hHeld
            have hHeld := HS.out _ H4.out
            try simp only [Act.put, List.setIfInBounds_toArray, List.set_cons_zero, List.set_cons_succ]
            refine wpAnyH_take (i := 5) (oi := ?oi5u88) (v := ?v5u88) ?hi5u88 (by kernel_rfl) (by kernel_rfl) (by kernel_rfl) ?hQ5u88 (Or.inl ⟨?hw5u88, ?hy5u88⟩) hHeld ?rest5u88
            case hi5u88 => (simp only [List.getElem?_toArray, List.getElem?_cons_succ, List.getElem?_cons_zero]; exact rfl)
            case hQ5u88 => exact fun _ _ _ h => h
            case hw5u88 => rfl
            case hy5u88 => (intro w hSw; (try dsimp only at hSw); go_simp <;> with_reducible rfl)
            try simp only [Act.put, List.setIfInBounds_toArray, List.set_cons_zero, List.set_cons_succ]
            refine wpAnyH_take (i := 6) (oi := ?oi6u89) (v := ?v6u89) ?hi6u89 (by kernel_rfl) (by kernel_rfl) (by kernel_rfl) ?hQ6u89 (Or.inl ⟨?hw6u89, ?hy6u89⟩) hHeld ?rest6u89
            case hi6u89 => (simp only [List.getElem?_toArray, List.getElem?_cons_succ, List.getElem?_cons_zero]; exact rfl)
            case hQ6u89 => exact fun _ _ _ h => h
            case hw6u89 => rfl
            case hy6u89 => (intro w hSw; (try dsimp only at hSw); go_simp <;> with_reducible rfl)
            try simp only [Act.put, List.setIfInBounds_toArray, List.set_cons_zero, List.set_cons_succ]
            refine wpAnyH_take (i := 7) (oi := ?oi7u90) (v := ?v7u90) ?hi7u90 (by kernel_rfl) (by kernel_rfl) (by kernel_rfl) ?hQ7u90 (Or.inl ⟨?hw7u90, ?hy7u90⟩) hHeld ?rest7u90
            case hi7u90 => (simp only [List.getElem?_toArray, List.getElem?_cons_succ, List.getElem?_cons_zero]; exact rfl)
            case hQ7u90 => exact fun _ _ _ h => h
            case hw7u90 => rfl
            case hy7u90 => (intro w hSw; (try dsimp only at hSw); go_simp <;> with_reducible rfl)
            try simp only [Act.put, List.setIfInBounds_toArray, List.set_cons_zero, List.set_cons_succ]
            refine wpAnyH_take (i := 8) (oi := ?oi8u91) (v := ?v8u91) ?hi8u91 (by kernel_rfl) (by kernel_rfl) (by kernel_rfl) ?hQ8u91 (Or.inl ⟨?hw8u91, ?hy8u91⟩) hHeld ?rest8u91
            case hi8u91 => (simp only [List.getElem?_toArray, List.getElem?_cons_succ, List.getElem?_cons_zero]; exact rfl)
            case hQ8u91 => exact fun _ _ _ h => h
            case hw8u91 => rfl
            case hy8u91 => (intro w hSw; (try dsimp only at hSw); go_simp <;> with_reducible rfl)
            try simp only [Act.put, List.setIfInBounds_toArray, List.set_cons_zero, List.set_cons_succ]
            refine wpAnyH_take (i := 9) (oi := ?oi9u92) (v := ?v9u92) ?hi9u92 (by kernel_rfl) (by kernel_rfl) (by kernel_rfl) ?hQ9u92 (Or.inl ⟨?hw9u92, ?hy9u92⟩) hHeld ?rest9u92
            case hi9u92 => (simp only [List.getElem?_toArray, List.getElem?_cons_succ, List.getElem?_cons_zero]; exact rfl)
            case hQ9u92 => exact fun _ _ _ h => h
            case hw9u92 => rfl
            case hy9u92 => (intro w hSw; (try dsimp only at hSw); go_simp <;> with_reducible rfl)
            try simp only [Act.put, List.setIfInBounds_toArray, List.set_cons_zero, List.set_cons_succ]
            have HY := H4
            have Hz := Lib.hid ((hb4.block gb (block_lt HZ3.out)).trans HZ3.out)
            clear hb4
            generalize w4 = Y at *
            obtain ⟨z0, z1, z2, zl, zf0, zf1, zf2⟩ := cells3 Hz.out
            obtain ⟨F, hF, hzF, hkF⟩ := store_heap (A := A1) (n := 7) (c := c1) (B := B1) (m := 0) (d := d1) (r := 7) Hz.out
            have HF := Lib.hid (HY.out.trans (hkF.bel.mono Hgb.out))
            try trivial
            have HzF := Lib.hid hzF
            refine held_one (i := 11) (o := ?oi11u93) (by kernel_rfl) ?hi11u93 (fun K hK => ?rest11u93)
            case hi11u93 => (simp only [List.getElem?_toArray, List.getElem?_cons_succ, List.getElem?_cons_zero]; exact rfl)
            go_simp
            rw [← hF]
            refine hK _ _ (HS.out _ HF.out) ?_
            clear hK K hHeld
            have hHeld := HS.out _ HF.out
            try simp only [Act.put, List.setIfInBounds_toArray, List.set_cons_zero, List.set_cons_succ]
            refine wpAnyH_take (i := 12) (oi := ?oi12u94) (v := ?v12u94) ?hi12u94 (by kernel_rfl) (by kernel_rfl) (by kernel_rfl) ?hQ12u94 (Or.inl ⟨?hw12u94, ?hy12u94⟩) hHeld ?rest12u94
            case hi12u94 => (simp only [List.getElem?_toArray, List.getElem?_cons_succ, List.getElem?_cons_zero]; exact rfl)
            case hQ12u94 => exact fun _ _ _ h => h
            case hw12u94 => rfl
            case hy12u94 => (intro w hSw; (try dsimp only at hSw); go_simp <;> with_reducible rfl)
            try simp only [Act.put, List.setIfInBounds_toArray, List.set_cons_zero, List.set_cons_succ]
            refine wpAnyH_take (i := 13) (oi := ?oi13u95) (v := ?v13u95) ?hi13u95 (by kernel_rfl) (by kernel_rfl) (by kernel_rfl) ?hQ13u95 (Or.inl ⟨?hw13u95, ?hy13u95⟩) hHeld ?rest13u95
            case hi13u95 => (simp only [List.getElem?_toArray, List.getElem?_cons_succ, List.getElem?_cons_zero]; exact rfl)
            case hQ13u95 => exact fun _ _ _ h => h
            case hw13u95 => rfl
            case hy13u95 => (intro w hSw; (try dsimp only at hSw); go_simp <;> with_reducible rfl)
            try simp only [Act.put, List.setIfInBounds_toArray, List.set_cons_zero, List.set_cons_succ]
            refine wpAnyH_take (i := 14) (oi := ?oi14u96) (v := ?v14u96) ?hi14u96 (by kernel_rfl) (by kernel_rfl) (by kernel_rfl) ?hQ14u96 (Or.inl ⟨?hw14u96, ?hy14u96⟩) hHeld ?rest14u96
            case hi14u96 => (simp only [List.getElem?_toArray, List.getElem?_cons_succ, List.getElem?_cons_zero]; exact rfl)
            case hQ14u96 => exact fun _ _ _ h => h
            case hw14u96 => rfl
            case hy14u96 => (intro w hSw; (try dsimp only at hSw); go_simp <;> with_reducible rfl)
            try simp only [Act.put, List.setIfInBounds_toArray, List.set_cons_zero, List.set_cons_succ]
            refine wpAnyH_done (by kernel_rfl) ?_ _
            clear hzF hkF hF z0 z1 z2 zl zf0 zf1 zf2 hHeld
            go_wp2_with fail
            go_meet
            exact ⟨rfl, HF.out⟩
      case rest =>
        obtain ⟨rfl, hbn⟩ := hcut
        replace hb1 := hb1.trans (hbn.mono hb1.size)
        replace hB1 := hB1.below hbn
        replace hI1 := hI1.below hbn
        replace hB2 := hB2.below hbn
        replace hI2 := hI2.below hbn
        clear hbn
        generalize wc = X at *
        go_upto_region 4 with fail
        go_cut [13, 14, 15, 16] from 60 to 69 (fun _ v2 _ v4 wx => v2 = .int .i64 1 ∧ v4 = .int .i64 0 ∧ Below X.heap.size X wx)
        case first =>
          obtain ⟨A1, c1, B1, d1, x1, hC1, hN1⟩ := hB2
          have HN1 := Lib.hid hN1
          have HC1 := Lib.hid hC1
          have HI1 := Lib.hid hI2
          obtain ⟨y0, y1, y2, yl⟩ := open3 x1
          refine wp_region_held_drew (S := fun w' => w'.cell? ⟨g2, 0, none⟩ = some (.slice A1 7 c1) ∧ w'.cell? ⟨g2, 1, none⟩ = some (.slice B1 0 d1) ∧ w'.cell? ⟨g2, 2, none⟩ = some (.int .i64 7)) (by kernel_rfl) ?gs4 ?gr4
          case gs4 => exact ⟨y0, y1, y2⟩
          case gr4 =>
            intro hHeld
            have hS : ∀ w', Below X.heap.size X w' → w'.cell? ⟨g2, 0, none⟩ = some (.slice A1 7 c1) ∧ w'.cell? ⟨g2, 1, none⟩ = some (.slice B1 0 d1) ∧ w'.cell? ⟨g2, 2, none⟩ = some (.int .i64 7) := fun w' hb => ⟨(hb.cell (p := ⟨g2, 0, none⟩) yl).trans y0, (hb.cell (p := ⟨g2, 1, none⟩) yl).trans y1, (hb.cell (p := ⟨g2, 2, none⟩) yl).trans y2⟩
            have HS := Lib.hid hS
            clear hS y0 y1 y2 yl x1 hC1 hN1 hI1 hI2 hB1
            have HV : Hid (Below X.heap.size X X.drew) := Lib.hid ((Below.refl _ _).drew)
            generalize X.drew = V at *

            refine wpAnyH_take (i := 0) (oi := ?oi0u97) (v := ?v0u97) ?hi0u97 (by kernel_rfl) (by kernel_rfl) (by kernel_rfl) ?hQ0u97 (Or.inl ⟨?hw0u97, ?hy0u97⟩) hHeld ?rest0u97
            case hi0u97 => (simp only [List.getElem?_toArray, List.getElem?_cons_succ, List.getElem?_cons_zero]; exact rfl)
            case hQ0u97 => exact fun _ _ _ h => h
            case hw0u97 => rfl
            case hy0u97 => (intro w hSw; (try dsimp only at hSw); go_simp <;> with_reducible rfl)
            try simp only [Act.put, List.setIfInBounds_toArray, List.set_cons_zero, List.set_cons_succ]
            refine wpAnyH_take (i := 3) (oi := ?oi3u98) (v := ?v3u98) ?hi3u98 (by kernel_rfl) (by kernel_rfl) (by kernel_rfl) ?hQ3u98 (Or.inl ⟨?hw3u98, ?hy3u98⟩) hHeld ?rest3u98
            case hi3u98 => (simp only [List.getElem?_toArray, List.getElem?_cons_succ, List.getElem?_cons_zero]; exact rfl)
            case hQ3u98 => exact fun _ _ _ h => h
            case hw3u98 => rfl
            case hy3u98 => (intro w hSw; (try dsimp only at hSw); go_simp <;> with_reducible rfl)
            try simp only [Act.put, List.setIfInBounds_toArray, List.set_cons_zero, List.set_cons_succ]
            refine held_two (i := 1) (j := 10) (oi := ?oi1u99) (oj := ?oi10u99) (by kernel_rfl) ?hi1u99 ?hi10u99 (fun K hK => ?rest1u99) (fun K hK => ?rest10u99)
            case hi1u99 => (simp only [List.getElem?_toArray, List.getElem?_cons_succ, List.getElem?_cons_zero]; exact rfl)
            case hi10u99 => (simp only [List.getElem?_toArray, List.getElem?_cons_succ, List.getElem?_cons_zero]; exact rfl)
            · go_simp
              go_at_call 35
              refine (cv8_any _ _).mono ?_
              rintro e w2 ⟨rfl, hb2⟩
              have H2 := Lib.hid (HV.out.trans (hb2.mono HV.out.size))
              try go_simp
              refine hK _ _ (HS.out _ H2.out) ?_
              clear hK K hHeld
              have hHeld := HS.out _ H2.out
              try simp only [Act.put, List.setIfInBounds_toArray, List.set_cons_zero, List.set_cons_succ]
              refine held_two (i := 2) (j := 10) (oi := ?oi2u100) (oj := ?oi10u100) (by kernel_rfl) ?hi2u100 ?hi10u100 (fun K hK => ?rest2u100) (fun K hK => ?rest10u100)
              case hi2u100 => (simp only [List.getElem?_toArray, List.getElem?_cons_succ, List.getElem?_cons_zero]; exact rfl)
              case hi10u100 => (simp only [List.getElem?_toArray, List.getElem?_cons_succ, List.getElem?_cons_zero]; exact rfl)
              · go_simp
                refine hK _ _ (HS.out ((w2.alloc (.cells #[.int .i64 1, .string ⟨#[]⟩, .int .i64 0] 54))) (H2.out.alloc H2.out.size _)) ?_
                clear hK K hHeld
                have hHeld := HS.out ((w2.alloc (.cells #[.int .i64 1, .string ⟨#[]⟩, .int .i64 0] 54))) (H2.out.alloc H2.out.size _)
                try simp only [Act.put, List.setIfInBounds_toArray, List.set_cons_zero, List.set_cons_succ]
                have H3 := Lib.hid (H2.out.alloc H2.out.size (.cells #[.int .i64 1, .string ⟨#[]⟩, .int .i64 0] 54))
                have HL := Lib.hid (isC_lit8 (n := 1) (l := [⟨1, ⟨#[]⟩, 0⟩]) (alloc_at (w := w2) (o := .cells #[.int .i64 1, .string ⟨#[]⟩, .int .i64 0] 54) rfl) rfl rfl (by omega) (cells_wf8 (by decide)))
                try trivial
                generalize (w2.alloc (.cells #[.int .i64 1, .string ⟨#[]⟩, .int .i64 0] 54)) = w3 at *
                generalize w2.heap.size = gl at *
                refine held_two (i := 4) (j := 10) (oi := ?oi4u101) (oj := ?oi10u101) (by kernel_rfl) ?hi4u101 ?hi10u101 (fun K hK => ?rest4u101) (fun K hK => ?rest10u101)
                case hi4u101 => (simp only [List.getElem?_toArray, List.getElem?_cons_succ, List.getElem?_cons_zero]; exact rfl)
                case hi10u101 => (simp only [List.getElem?_toArray, List.getElem?_cons_succ, List.getElem?_cons_zero]; exact rfl)
                · go_simp
                  go_at_call 19
                  refine (put_yes (hPut_any (.v 0) A1 B1 D2 (some ⟨gl, 0, none⟩) 7 c1 0 d1 1 e2 1 1 7 hL2 [1] w3 (HC1.out.below H3.out) HL.out (HI1.out.below H3.out) okT4 (by decide) (by omega) (by omega)) hput4 (by decide)).mono ?_
                  rintro e w4 ⟨A2, c2, D2, d2, rfl, hC2, hI2, hb4⟩
                  have H4 := Lib.hid (H3.out.trans (hb4.mono H3.out.size))
                  have HC2 := Lib.hid hC2
                  have HI2 := Lib.hid hI2
                  clear hC2 hI2
                  try go_simp
                  refine hK _ _ (HS.out _ H4.out) ?_
                  clear hK K hHeld
                  have hHeld := HS.out _ H4.out
                  try simp only [Act.put, List.setIfInBounds_toArray, List.set_cons_zero, List.set_cons_succ]
                  refine wpAnyH_take (i := 5) (oi := ?oi5u102) (v := ?v5u102) ?hi5u102 (by kernel_rfl) (by kernel_rfl) (by kernel_rfl) ?hQ5u102 (Or.inl ⟨?hw5u102, ?hy5u102⟩) hHeld ?rest5u102
                  case hi5u102 => (simp only [List.getElem?_toArray, List.getElem?_cons_succ, List.getElem?_cons_zero]; exact rfl)
                  case hQ5u102 => exact fun _ _ _ h => h
                  case hw5u102 => rfl
                  case hy5u102 => (intro w hSw; (try dsimp only at hSw); go_simp <;> with_reducible rfl)
                  try simp only [Act.put, List.setIfInBounds_toArray, List.set_cons_zero, List.set_cons_succ]
                  refine wpAnyH_take (i := 6) (oi := ?oi6u103) (v := ?v6u103) ?hi6u103 (by kernel_rfl) (by kernel_rfl) (by kernel_rfl) ?hQ6u103 (Or.inl ⟨?hw6u103, ?hy6u103⟩) hHeld ?rest6u103
                  case hi6u103 => (simp only [List.getElem?_toArray, List.getElem?_cons_succ, List.getElem?_cons_zero]; exact rfl)
                  case hQ6u103 => exact fun _ _ _ h => h
                  case hw6u103 => rfl
                  case hy6u103 => (intro w hSw; (try dsimp only at hSw); go_simp <;> with_reducible rfl)
                  try simp only [Act.put, List.setIfInBounds_toArray, List.set_cons_zero, List.set_cons_succ]
                  refine wpAnyH_take (i := 7) (oi := ?oi7u104) (v := ?v7u104) ?hi7u104 (by kernel_rfl) (by kernel_rfl) (by kernel_rfl) ?hQ7u104 (Or.inl ⟨?hw7u104, ?hy7u104⟩) hHeld ?rest7u104
                  case hi7u104 => (simp only [List.getElem?_toArray, List.getElem?_cons_succ, List.getElem?_cons_zero]; exact rfl)
                  case hQ7u104 => exact fun _ _ _ h => h
                  case hw7u104 => rfl
                  case hy7u104 => (intro w hSw; (try dsimp only at hSw); go_simp <;> with_reducible rfl)
                  try simp only [Act.put, List.setIfInBounds_toArray, List.set_cons_zero, List.set_cons_succ]
                  refine wpAnyH_take (i := 8) (oi := ?oi8u105) (v := ?v8u105) ?hi8u105 (by kernel_rfl) (by kernel_rfl) (by kernel_rfl) ?hQ8u105 (Or.inl ⟨?hw8u105, ?hy8u105⟩) hHeld ?rest8u105
                  case hi8u105 => (simp only [List.getElem?_toArray, List.getElem?_cons_succ, List.getElem?_cons_zero]; exact rfl)
                  case hQ8u105 => exact fun _ _ _ h => h
                  case hw8u105 => rfl
                  case hy8u105 => (intro w hSw; (try dsimp only at hSw); go_simp <;> with_reducible rfl)
                  try simp only [Act.put, List.setIfInBounds_toArray, List.set_cons_zero, List.set_cons_succ]
                  refine wpAnyH_take (i := 9) (oi := ?oi9u106) (v := ?v9u106) ?hi9u106 (by kernel_rfl) (by kernel_rfl) (by kernel_rfl) ?hQ9u106 (Or.inl ⟨?hw9u106, ?hy9u106⟩) hHeld ?rest9u106
                  case hi9u106 => (simp only [List.getElem?_toArray, List.getElem?_cons_succ, List.getElem?_cons_zero]; exact rfl)
                  case hQ9u106 => exact fun _ _ _ h => h
                  case hw9u106 => rfl
                  case hy9u106 => (intro w hSw; (try dsimp only at hSw); go_simp <;> with_reducible rfl)
                  try simp only [Act.put, List.setIfInBounds_toArray, List.set_cons_zero, List.set_cons_succ]
                  refine held_one (i := 10) (o := ?oi10u107) (by kernel_rfl) ?hi10u107 (fun K hK => ?rest10u107)
                  case hi10u107 => (simp only [List.getElem?_toArray, List.getElem?_cons_succ, List.getElem?_cons_zero]; exact rfl)
                  go_simp
                  refine hK _ _ (HS.out ((w4.alloc Oz)) (H4.out.alloc H4.out.size _)) ?_
                  clear hK K hHeld
                  have hHeld := HS.out ((w4.alloc Oz)) (H4.out.alloc H4.out.size _)
                  try simp only [Act.put, List.setIfInBounds_toArray, List.set_cons_zero, List.set_cons_succ]
                  have HO := Lib.hid (H4.out.alloc H4.out.size Oz)
                  have HZ := Lib.hid (show (w4.alloc Oz).heap[w4.heap.size]? = some (.cells #[.slice none 0 0, .slice none 0 0, .int .i64 0] 25 (0, 0)) from alloc_at rfl)
                  have Hgb : Hid (X.heap.size ≤ w4.heap.size) := Lib.hid H4.out.size
                  have HY := HO
                  have Hz := HZ
                  have HC2 := Lib.hid (HC2.out.below (bas w4 Oz))
                  have HI2 := Lib.hid (HI2.out.below (bas w4 Oz))
                  generalize w4.alloc Oz = Y at *
                  generalize w4.heap.size = gb at *
                  obtain ⟨z0, z1, z2, zl, zf0, zf1, zf2⟩ := cells3 Hz.out
                  obtain ⟨F, hF, hzF, hkF⟩ := store_heap (A := A2) (n := hL2.length) (c := c2) (B := B1) (m := 0) (d := d1) (r := 7) Hz.out
                  have HF := Lib.hid (HY.out.trans (hkF.bel.mono Hgb.out))
                  have HC2F := Lib.hid (HC2.out.kq hkF (HC2.out.off_heap (by decide) Hz.out))
                  have HI2F := Lib.hid (HI2.out.kq hkF (HI2.out.off_heap (by decide) Hz.out))
                  have HzF := Lib.hid hzF
                  refine held_one (i := 11) (o := ?oi11u108) (by kernel_rfl) ?hi11u108 (fun K hK => ?rest11u108)
                  case hi11u108 => (simp only [List.getElem?_toArray, List.getElem?_cons_succ, List.getElem?_cons_zero]; exact rfl)
                  go_simp
                  rw [← hF]
                  refine hK _ _ (HS.out _ HF.out) ?_
                  clear hK K hHeld
                  have hHeld := HS.out _ HF.out
                  try simp only [Act.put, List.setIfInBounds_toArray, List.set_cons_zero, List.set_cons_succ]
                  refine wpAnyH_take (i := 12) (oi := ?oi12u109) (v := ?v12u109) ?hi12u109 (by kernel_rfl) (by kernel_rfl) (by kernel_rfl) ?hQ12u109 (Or.inl ⟨?hw12u109, ?hy12u109⟩) hHeld ?rest12u109
                  case hi12u109 => (simp only [List.getElem?_toArray, List.getElem?_cons_succ, List.getElem?_cons_zero]; exact rfl)
                  case hQ12u109 => exact fun _ _ _ h => h
                  case hw12u109 => rfl
                  case hy12u109 => (intro w hSw; (try dsimp only at hSw); go_simp <;> with_reducible rfl)
                  try simp only [Act.put, List.setIfInBounds_toArray, List.set_cons_zero, List.set_cons_succ]
                  refine wpAnyH_take (i := 13) (oi := ?oi13u110) (v := ?v13u110) ?hi13u110 (by kernel_rfl) (by kernel_rfl) (by kernel_rfl) ?hQ13u110 (Or.inl ⟨?hw13u110, ?hy13u110⟩) hHeld ?rest13u110
                  case hi13u110 => (simp only [List.getElem?_toArray, List.getElem?_cons_succ, List.getElem?_cons_zero]; exact rfl)
                  case hQ13u110 => exact fun _ _ _ h => h
                  case hw13u110 => rfl
                  case hy13u110 => (intro w hSw; (try dsimp only at hSw); go_simp <;> with_reducible rfl)
                  try simp only [Act.put, List.setIfInBounds_toArray, List.set_cons_zero, List.set_cons_succ]
                  refine wpAnyH_take (i := 14) (oi := ?oi14u111) (v := ?v14u111) ?hi14u111 (by kernel_rfl) (by kernel_rfl) (by kernel_rfl) ?hQ14u111 (Or.inl ⟨?hw14u111, ?hy14u111⟩) hHeld ?rest14u111
                  case hi14u111 => (simp only [List.getElem?_toArray, List.getElem?_cons_succ, List.getElem?_cons_zero]; exact rfl)
                  case hQ14u111 => exact fun _ _ _ h => h
                  case hw14u111 => rfl
                  case hy14u111 => (intro w hSw; (try dsimp only at hSw); go_simp <;> with_reducible rfl)
                  try simp only [Act.put, List.setIfInBounds_toArray, List.set_cons_zero, List.set_cons_succ]
                  refine wpAnyH_done (by kernel_rfl) ?_ _
                  clear hzF hkF hF z0 z1 z2 zl zf0 zf1 zf2 hHeld
                  go_wp2_with fail
                  go_meet
                  exact ⟨rfl, rfl, HF.out⟩
                · go_simp
                  refine hK _ _ (HS.out ((w3.alloc Oz)) (H3.out.alloc H3.out.size _)) ?_
                  clear hK K hHeld
                  have hHeld := HS.out ((w3.alloc Oz)) (H3.out.alloc H3.out.size _)
                  try simp only [Act.put, List.setIfInBounds_toArray, List.set_cons_zero, List.set_cons_succ]
                  have HO := Lib.hid (H3.out.alloc H3.out.size Oz)
                  have HZ := Lib.hid (show (w3.alloc Oz).heap[w3.heap.size]? = some (.cells #[.slice none 0 0, .slice none 0 0, .int .i64 0] 25 (0, 0)) from alloc_at rfl)
                  have Hgb : Hid (X.heap.size ≤ w3.heap.size) := Lib.hid H3.out.size
                  have HL3 := Lib.hid (HL.out.below (bas w3 Oz))
                  generalize w3.alloc Oz = w5 at *
                  generalize w3.heap.size = gb at *
                  refine held_one (i := 4) (o := ?oi4u112) (by kernel_rfl) ?hi4u112 (fun K hK => ?rest4u112)
                  case hi4u112 => (simp only [List.getElem?_toArray, List.getElem?_cons_succ, List.getElem?_cons_zero]; exact rfl)
                  go_simp
                  go_at_call 19
                  refine (put_yes (hPut_any (.v 0) A1 B1 D2 (some ⟨gl, 0, none⟩) 7 c1 0 d1 1 e2 1 1 7 hL2 [1] w5 (HC1.out.below HO.out) HL3.out (HI1.out.below HO.out) okT4 (by decide) (by omega) (by omega)) hput4 (by decide)).mono ?_
                  rintro e w4 ⟨A2, c2, D2, d2, rfl, hC2, hI2, hb4⟩
                  have H4 := Lib.hid (HO.out.trans (hb4.mono HO.out.size))
                  have HC2 := Lib.hid hC2
                  have HI2 := Lib.hid hI2
                  clear hC2 hI2
                  try go_simp
                  refine hK _ _ (HS.out _ H4.out) ?_
                  clear hK K hHeld
                  have hHeld := HS.out _ H4.out
                  try simp only [Act.put, List.setIfInBounds_toArray, List.set_cons_zero, List.set_cons_succ]
                  refine wpAnyH_take (i := 5) (oi := ?oi5u113) (v := ?v5u113) ?hi5u113 (by kernel_rfl) (by kernel_rfl) (by kernel_rfl) ?hQ5u113 (Or.inl ⟨?hw5u113, ?hy5u113⟩) hHeld ?rest5u113
                  case hi5u113 => (simp only [List.getElem?_toArray, List.getElem?_cons_succ, List.getElem?_cons_zero]; exact rfl)
                  case hQ5u113 => exact fun _ _ _ h => h
                  case hw5u113 => rfl
                  case hy5u113 => (intro w hSw; (try dsimp only at hSw); go_simp <;> with_reducible rfl)
                  try simp only [Act.put, List.setIfInBounds_toArray, List.set_cons_zero, List.set_cons_succ]
                  refine wpAnyH_take (i := 6) (oi := ?oi6u114) (v := ?v6u114) ?hi6u114 (by kernel_rfl) (by kernel_rfl) (by kernel_rfl) ?hQ6u114 (Or.inl ⟨?hw6u114, ?hy6u114⟩) hHeld ?rest6u114
                  case hi6u114 => (simp only [List.getElem?_toArray, List.getElem?_cons_succ, List.getElem?_cons_zero]; exact rfl)
                  case hQ6u114 => exact fun _ _ _ h => h
                  case hw6u114 => rfl
                  case hy6u114 => (intro w hSw; (try dsimp only at hSw); go_simp <;> with_reducible rfl)
                  try simp only [Act.put, List.setIfInBounds_toArray, List.set_cons_zero, List.set_cons_succ]
                  refine wpAnyH_take (i := 7) (oi := ?oi7u115) (v := ?v7u115) ?hi7u115 (by kernel_rfl) (by kernel_rfl) (by kernel_rfl) ?hQ7u115 (Or.inl ⟨?hw7u115, ?hy7u115⟩) hHeld ?rest7u115
                  case hi7u115 => (simp only [List.getElem?_toArray, List.getElem?_cons_succ, List.getElem?_cons_zero]; exact rfl)
                  case hQ7u115 => exact fun _ _ _ h => h
                  case hw7u115 => rfl
                  case hy7u115 => (intro w hSw; (try dsimp only at hSw); go_simp <;> with_reducible rfl)
                  try simp only [Act.put, List.setIfInBounds_toArray, List.set_cons_zero, List.set_cons_succ]
                  refine wpAnyH_take (i := 8) (oi := ?oi8u116) (v := ?v8u116) ?hi8u116 (by kernel_rfl) (by kernel_rfl) (by kernel_rfl) ?hQ8u116 (Or.inl ⟨?hw8u116, ?hy8u116⟩) hHeld ?rest8u116
                  case hi8u116 => (simp only [List.getElem?_toArray, List.getElem?_cons_succ, List.getElem?_cons_zero]; exact rfl)
                  case hQ8u116 => exact fun _ _ _ h => h
                  case hw8u116 => rfl
                  case hy8u116 => (intro w hSw; (try dsimp only at hSw); go_simp <;> with_reducible rfl)
                  try simp only [Act.put, List.setIfInBounds_toArray, List.set_cons_zero, List.set_cons_succ]
                  refine wpAnyH_take (i := 9) (oi := ?oi9u117) (v := ?v9u117) ?hi9u117 (by kernel_rfl) (by kernel_rfl) (by kernel_rfl) ?hQ9u117 (Or.inl ⟨?hw9u117, ?hy9u117⟩) hHeld ?rest9u117
                  case hi9u117 => (simp only [List.getElem?_toArray, List.getElem?_cons_succ, List.getElem?_cons_zero]; exact rfl)
                  case hQ9u117 => exact fun _ _ _ h => h
                  case hw9u117 => rfl
                  case hy9u117 => (intro w hSw; (try dsimp only at hSw); go_simp <;> with_reducible rfl)
                  try simp only [Act.put, List.setIfInBounds_toArray, List.set_cons_zero, List.set_cons_succ]
                  have HY := H4
                  have Hz := Lib.hid ((hb4.block gb (block_lt HZ.out)).trans HZ.out)
                  clear hb4
                  generalize w4 = Y at *
                  obtain ⟨z0, z1, z2, zl, zf0, zf1, zf2⟩ := cells3 Hz.out
                  obtain ⟨F, hF, hzF, hkF⟩ := store_heap (A := A2) (n := hL2.length) (c := c2) (B := B1) (m := 0) (d := d1) (r := 7) Hz.out
                  have HF := Lib.hid (HY.out.trans (hkF.bel.mono Hgb.out))
                  have HC2F := Lib.hid (HC2.out.kq hkF (HC2.out.off_heap (by decide) Hz.out))
                  have HI2F := Lib.hid (HI2.out.kq hkF (HI2.out.off_heap (by decide) Hz.out))
                  have HzF := Lib.hid hzF
                  refine held_one (i := 11) (o := ?oi11u118) (by kernel_rfl) ?hi11u118 (fun K hK => ?rest11u118)
                  case hi11u118 => (simp only [List.getElem?_toArray, List.getElem?_cons_succ, List.getElem?_cons_zero]; exact rfl)
                  go_simp
                  rw [← hF]
                  refine hK _ _ (HS.out _ HF.out) ?_
                  clear hK K hHeld
                  have hHeld := HS.out _ HF.out
                  try simp only [Act.put, List.setIfInBounds_toArray, List.set_cons_zero, List.set_cons_succ]
                  refine wpAnyH_take (i := 12) (oi := ?oi12u119) (v := ?v12u119) ?hi12u119 (by kernel_rfl) (by kernel_rfl) (by kernel_rfl) ?hQ12u119 (Or.inl ⟨?hw12u119, ?hy12u119⟩) hHeld ?rest12u119
                  case hi12u119 => (simp only [List.getElem?_toArray, List.getElem?_cons_succ, List.getElem?_cons_zero]; exact rfl)
                  case hQ12u119 => exact fun _ _ _ h => h
                  case hw12u119 => rfl
                  case hy12u119 => (intro w hSw; (try dsimp only at hSw); go_simp <;> with_reducible rfl)
                  try simp only [Act.put, List.setIfInBounds_toArray, List.set_cons_zero, List.set_cons_succ]
                  refine wpAnyH_take (i := 13) (oi := ?oi13u120) (v := ?v13u120) ?hi13u120 (by kernel_rfl) (by kernel_rfl) (by kernel_rfl) ?hQ13u120 (Or.inl ⟨?hw13u120, ?hy13u120⟩) hHeld ?rest13u120
                  case hi13u120 => (simp only [List.getElem?_toArray, List.getElem?_cons_succ, List.getElem?_cons_zero]; exact rfl)
                  case hQ13u120 => exact fun _ _ _ h => h
                  case hw13u120 => rfl
                  case hy13u120 => (intro w hSw; (try dsimp only at hSw); go_simp <;> with_reducible rfl)
                  try simp only [Act.put, List.setIfInBounds_toArray, List.set_cons_zero, List.set_cons_succ]
                  refine wpAnyH_take (i := 14) (oi := ?oi14u121) (v := ?v14u121) ?hi14u121 (by kernel_rfl) (by kernel_rfl) (by kernel_rfl) ?hQ14u121 (Or.inl ⟨?hw14u121, ?hy14u121⟩) hHeld ?rest14u121
                  case hi14u121 => (simp only [List.getElem?_toArray, List.getElem?_cons_succ, List.getElem?_cons_zero]; exact rfl)
                  case hQ14u121 => exact fun _ _ _ h => h
                  case hw14u121 => rfl
                  case hy14u121 => (intro w hSw; (try dsimp only at hSw); go_simp <;> with_reducible rfl)
                  try simp only [Act.put, List.setIfInBounds_toArray, List.set_cons_zero, List.set_cons_succ]
                  refine wpAnyH_done (by kernel_rfl) ?_ _
                  clear hzF hkF hF z0 z1 z2 zl zf0 zf1 zf2 hHeld
                  go_wp2_with fail
                  go_meet
                  exact ⟨rfl, rfl, HF.out⟩
              · go_simp
                refine hK _ _ (HS.out ((w2.alloc Oz)) (H2.out.alloc H2.out.size _)) ?_
                clear hK K hHeld
                have hHeld := HS.out ((w2.alloc Oz)) (H2.out.alloc H2.out.size _)
                try simp only [Act.put, List.setIfInBounds_toArray, List.set_cons_zero, List.set_cons_succ]
                have HO := Lib.hid (H2.out.alloc H2.out.size Oz)
                have HZ := Lib.hid (show (w2.alloc Oz).heap[w2.heap.size]? = some (.cells #[.slice none 0 0, .slice none 0 0, .int .i64 0] 25 (0, 0)) from alloc_at rfl)
                have Hgb : Hid (X.heap.size ≤ w2.heap.size) := Lib.hid H2.out.size
                clear H2
                have H2 := HO
                clear HO
                generalize w2.heap.size = gb at *
                generalize w2.alloc Oz = w2 at *
                refine held_one (i := 2) (o := ?oi2u122) (by kernel_rfl) ?hi2u122 (fun K hK => ?rest2u122)
                case hi2u122 => (simp only [List.getElem?_toArray, List.getElem?_cons_succ, List.getElem?_cons_zero]; exact rfl)
                go_simp
                refine hK _ _ (HS.out ((w2.alloc (.cells #[.int .i64 1, .string ⟨#[]⟩, .int .i64 0] 54))) (H2.out.alloc H2.out.size _)) ?_
                clear hK K hHeld
                have hHeld := HS.out ((w2.alloc (.cells #[.int .i64 1, .string ⟨#[]⟩, .int .i64 0] 54))) (H2.out.alloc H2.out.size _)
                try simp only [Act.put, List.setIfInBounds_toArray, List.set_cons_zero, List.set_cons_succ]
                have H3 := Lib.hid (H2.out.alloc H2.out.size (.cells #[.int .i64 1, .string ⟨#[]⟩, .int .i64 0] 54))
                have HL := Lib.hid (isC_lit8 (n := 1) (l := [⟨1, ⟨#[]⟩, 0⟩]) (alloc_at (w := w2) (o := .cells #[.int .i64 1, .string ⟨#[]⟩, .int .i64 0] 54) rfl) rfl rfl (by omega) (cells_wf8 (by decide)))
                have HZ3 := Lib.hid ((bas w2 (.cells #[.int .i64 1, .string ⟨#[]⟩, .int .i64 0] 54)).block gb (block_lt HZ.out) |>.trans HZ.out)
                generalize (w2.alloc (.cells #[.int .i64 1, .string ⟨#[]⟩, .int .i64 0] 54)) = w3 at *
                generalize w2.heap.size = gl at *
                refine held_one (i := 4) (o := ?oi4u123) (by kernel_rfl) ?hi4u123 (fun K hK => ?rest4u123)
                case hi4u123 => (simp only [List.getElem?_toArray, List.getElem?_cons_succ, List.getElem?_cons_zero]; exact rfl)
                go_simp
                go_at_call 19
                refine (put_yes (hPut_any (.v 0) A1 B1 D2 (some ⟨gl, 0, none⟩) 7 c1 0 d1 1 e2 1 1 7 hL2 [1] w3 (HC1.out.below H3.out) HL.out (HI1.out.below H3.out) okT4 (by decide) (by omega) (by omega)) hput4 (by decide)).mono ?_
                rintro e w4 ⟨A2, c2, D2, d2, rfl, hC2, hI2, hb4⟩
                have H4 := Lib.hid (H3.out.trans (hb4.mono H3.out.size))
                have HC2 := Lib.hid hC2
                have HI2 := Lib.hid hI2
                clear hC2 hI2
                try go_simp
                refine hK _ _ (HS.out _ H4.out) ?_
                clear hK K hHeld
                have hHeld := HS.out _ H4.out
                try simp only [Act.put, List.setIfInBounds_toArray, List.set_cons_zero, List.set_cons_succ]
                refine wpAnyH_take (i := 5) (oi := ?oi5u124) (v := ?v5u124) ?hi5u124 (by kernel_rfl) (by kernel_rfl) (by kernel_rfl) ?hQ5u124 (Or.inl ⟨?hw5u124, ?hy5u124⟩) hHeld ?rest5u124
                case hi5u124 => (simp only [List.getElem?_toArray, List.getElem?_cons_succ, List.getElem?_cons_zero]; exact rfl)
                case hQ5u124 => exact fun _ _ _ h => h
                case hw5u124 => rfl
                case hy5u124 => (intro w hSw; (try dsimp only at hSw); go_simp <;> with_reducible rfl)
                try simp only [Act.put, List.setIfInBounds_toArray, List.set_cons_zero, List.set_cons_succ]
                refine wpAnyH_take (i := 6) (oi := ?oi6u125) (v := ?v6u125) ?hi6u125 (by kernel_rfl) (by kernel_rfl) (by kernel_rfl) ?hQ6u125 (Or.inl ⟨?hw6u125, ?hy6u125⟩) hHeld ?rest6u125
                case hi6u125 => (simp only [List.getElem?_toArray, List.getElem?_cons_succ, List.getElem?_cons_zero]; exact rfl)
                case hQ6u125 => exact fun _ _ _ h => h
                case hw6u125 => rfl
                case hy6u125 => (intro w hSw; (try dsimp only at hSw); go_simp <;> with_reducible rfl)
                try simp only [Act.put, List.setIfInBounds_toArray, List.set_cons_zero, List.set_cons_succ]
                refine wpAnyH_take (i := 7) (oi := ?oi7u126) (v := ?v7u126) ?hi7u126 (by kernel_rfl) (by kernel_rfl) (by kernel_rfl) ?hQ7u126 (Or.inl ⟨?hw7u126, ?hy7u126⟩) hHeld ?rest7u126
                case hi7u126 => (simp only [List.getElem?_toArray, List.getElem?_cons_succ, List.getElem?_cons_zero]; exact rfl)
                case hQ7u126 => exact fun _ _ _ h => h
                case hw7u126 => rfl
                case hy7u126 => (intro w hSw; (try dsimp only at hSw); go_simp <;> with_reducible rfl)
                try simp only [Act.put, List.setIfInBounds_toArray, List.set_cons_zero, List.set_cons_succ]
                refine wpAnyH_take (i := 8) (oi := ?oi8u127) (v := ?v8u127) ?hi8u127 (by kernel_rfl) (by kernel_rfl) (by kernel_rfl) ?hQ8u127 (Or.inl ⟨?hw8u127, ?hy8u127⟩) hHeld ?rest8u127
                case hi8u127 => (simp only [List.getElem?_toArray, List.getElem?_cons_succ, List.getElem?_cons_zero]; exact rfl)
                case hQ8u127 => exact fun _ _ _ h => h
                case hw8u127 => rfl
                case hy8u127 => (intro w hSw; (try dsimp only at hSw); go_simp <;> with_reducible rfl)
                try simp only [Act.put, List.setIfInBounds_toArray, List.set_cons_zero, List.set_cons_succ]
                refine wpAnyH_take (i := 9) (oi := ?oi9u128) (v := ?v9u128) ?hi9u128 (by kernel_rfl) (by kernel_rfl) (by kernel_rfl) ?hQ9u128 (Or.inl ⟨?hw9u128, ?hy9u128⟩) hHeld ?rest9u128
                case hi9u128 => (simp only [List.getElem?_toArray, List.getElem?_cons_succ, List.getElem?_cons_zero]; exact rfl)
                case hQ9u128 => exact fun _ _ _ h => h
                case hw9u128 => rfl
                case hy9u128 => (intro w hSw; (try dsimp only at hSw); go_simp <;> with_reducible rfl)
                try simp only [Act.put, List.setIfInBounds_toArray, List.set_cons_zero, List.set_cons_succ]
                have HY := H4
                have Hz := Lib.hid ((hb4.block gb (block_lt HZ3.out)).trans HZ3.out)
                clear hb4
                generalize w4 = Y at *
                obtain ⟨z0, z1, z2, zl, zf0, zf1, zf2⟩ := cells3 Hz.out
                obtain ⟨F, hF, hzF, hkF⟩ := store_heap (A := A2) (n := hL2.length) (c := c2) (B := B1) (m := 0) (d := d1) (r := 7) Hz.out
                have HF := Lib.hid (HY.out.trans (hkF.bel.mono Hgb.out))
                have HC2F := Lib.hid (HC2.out.kq hkF (HC2.out.off_heap (by decide) Hz.out))
                have HI2F := Lib.hid (HI2.out.kq hkF (HI2.out.off_heap (by decide) Hz.out))
                have HzF := Lib.hid hzF
                refine held_one (i := 11) (o := ?oi11u129) (by kernel_rfl) ?hi11u129 (fun K hK => ?rest11u129)
                case hi11u129 => (simp only [List.getElem?_toArray, List.getElem?_cons_succ, List.getElem?_cons_zero]; exact rfl)
                go_simp
                rw [← hF]
                refine hK _ _ (HS.out _ HF.out) ?_
                clear hK K hHeld
                have hHeld := HS.out _ HF.out
                try simp only [Act.put, List.setIfInBounds_toArray, List.set_cons_zero, List.set_cons_succ]
                refine wpAnyH_take (i := 12) (oi := ?oi12u130) (v := ?v12u130) ?hi12u130 (by kernel_rfl) (by kernel_rfl) (by kernel_rfl) ?hQ12u130 (Or.inl ⟨?hw12u130, ?hy12u130⟩) hHeld ?rest12u130
                case hi12u130 => (simp only [List.getElem?_toArray, List.getElem?_cons_succ, List.getElem?_cons_zero]; exact rfl)
                case hQ12u130 => exact fun _ _ _ h => h
                case hw12u130 => rfl
                case hy12u130 => (intro w hSw; (try dsimp only at hSw); go_simp <;> with_reducible rfl)
                try simp only [Act.put, List.setIfInBounds_toArray, List.set_cons_zero, List.set_cons_succ]
                refine wpAnyH_take (i := 13) (oi := ?oi13u131) (v := ?v13u131) ?hi13u131 (by kernel_rfl) (by kernel_rfl) (by kernel_rfl) ?hQ13u131 (Or.inl ⟨?hw13u131, ?hy13u131⟩) hHeld ?rest13u131
                case hi13u131 => (simp only [List.getElem?_toArray, List.getElem?_cons_succ, List.getElem?_cons_zero]; exact rfl)
                case hQ13u131 => exact fun _ _ _ h => h
                case hw13u131 => rfl
                case hy13u131 => (intro w hSw; (try dsimp only at hSw); go_simp <;> with_reducible rfl)
                try simp only [Act.put, List.setIfInBounds_toArray, List.set_cons_zero, List.set_cons_succ]
                refine wpAnyH_take (i := 14) (oi := ?oi14u132) (v := ?v14u132) ?hi14u132 (by kernel_rfl) (by kernel_rfl) (by kernel_rfl) ?hQ14u132 (Or.inl ⟨?hw14u132, ?hy14u132⟩) hHeld ?rest14u132
                case hi14u132 => (simp only [List.getElem?_toArray, List.getElem?_cons_succ, List.getElem?_cons_zero]; exact rfl)
                case hQ14u132 => exact fun _ _ _ h => h
                case hw14u132 => rfl
                case hy14u132 => (intro w hSw; (try dsimp only at hSw); go_simp <;> with_reducible rfl)
                try simp only [Act.put, List.setIfInBounds_toArray, List.set_cons_zero, List.set_cons_succ]
                refine wpAnyH_done (by kernel_rfl) ?_ _
                clear hzF hkF hF z0 z1 z2 zl zf0 zf1 zf2 hHeld
                go_wp2_with fail
                go_meet
                exact ⟨rfl, rfl, HF.out⟩
            · go_simp
              refine hK _ _ (HS.out ((V.alloc Oz)) (HV.out.alloc HV.out.size _)) ?_
              clear hK K hHeld
              have hHeld := HS.out ((V.alloc Oz)) (HV.out.alloc HV.out.size _)
              try simp only [Act.put, List.setIfInBounds_toArray, List.set_cons_zero, List.set_cons_succ]
              have HO := Lib.hid (HV.out.alloc HV.out.size Oz)
              have HZ := Lib.hid (show (V.alloc Oz).heap[V.heap.size]? = some (.cells #[.slice none 0 0, .slice none 0 0, .int .i64 0] 25 (0, 0)) from alloc_at rfl)
              have Hgb : Hid (X.heap.size ≤ V.heap.size) := Lib.hid HV.out.size
              clear HV
              have HV := HO
              clear HO
              generalize V.heap.size = gb at *
              generalize V.alloc Oz = V at *
              refine held_one (i := 1) (o := ?oi1u133) (by kernel_rfl) ?hi1u133 (fun K hK => ?rest1u133)
              case hi1u133 => (simp only [List.getElem?_toArray, List.getElem?_cons_succ, List.getElem?_cons_zero]; exact rfl)
              go_simp
              go_at_call 35
              refine (cv8_any _ _).mono ?_
              rintro e w2 ⟨rfl, hb2⟩
              have H2 := Lib.hid (HV.out.trans (hb2.mono HV.out.size))
              try go_simp
              refine hK _ _ (HS.out _ H2.out) ?_
              clear hK K hHeld
              have hHeld := HS.out _ H2.out
              try simp only [Act.put, List.setIfInBounds_toArray, List.set_cons_zero, List.set_cons_succ]
              have HZ2 := Lib.hid ((hb2.block gb (block_lt HZ.out)).trans HZ.out)
              clear hb2
              refine held_one (i := 2) (o := ?oi2u134) (by kernel_rfl) ?hi2u134 (fun K hK => ?rest2u134)
              case hi2u134 => (simp only [List.getElem?_toArray, List.getElem?_cons_succ, List.getElem?_cons_zero]; exact rfl)
              go_simp
              refine hK _ _ (HS.out ((w2.alloc (.cells #[.int .i64 1, .string ⟨#[]⟩, .int .i64 0] 54))) (H2.out.alloc H2.out.size _)) ?_
              clear hK K hHeld
              have hHeld := HS.out ((w2.alloc (.cells #[.int .i64 1, .string ⟨#[]⟩, .int .i64 0] 54))) (H2.out.alloc H2.out.size _)
              try simp only [Act.put, List.setIfInBounds_toArray, List.set_cons_zero, List.set_cons_succ]
              have H3 := Lib.hid (H2.out.alloc H2.out.size (.cells #[.int .i64 1, .string ⟨#[]⟩, .int .i64 0] 54))
              have HL := Lib.hid (isC_lit8 (n := 1) (l := [⟨1, ⟨#[]⟩, 0⟩]) (alloc_at (w := w2) (o := .cells #[.int .i64 1, .string ⟨#[]⟩, .int .i64 0] 54) rfl) rfl rfl (by omega) (cells_wf8 (by decide)))
              have HZ3 := Lib.hid ((bas w2 (.cells #[.int .i64 1, .string ⟨#[]⟩, .int .i64 0] 54)).block gb (block_lt HZ2.out) |>.trans HZ2.out)
              generalize (w2.alloc (.cells #[.int .i64 1, .string ⟨#[]⟩, .int .i64 0] 54)) = w3 at *
              generalize w2.heap.size = gl at *
              refine held_one (i := 4) (o := ?oi4u135) (by kernel_rfl) ?hi4u135 (fun K hK => ?rest4u135)
              case hi4u135 => (simp only [List.getElem?_toArray, List.getElem?_cons_succ, List.getElem?_cons_zero]; exact rfl)
              go_simp
              go_at_call 19
              refine (put_yes (hPut_any (.v 0) A1 B1 D2 (some ⟨gl, 0, none⟩) 7 c1 0 d1 1 e2 1 1 7 hL2 [1] w3 (HC1.out.below H3.out) HL.out (HI1.out.below H3.out) okT4 (by decide) (by omega) (by omega)) hput4 (by decide)).mono ?_
              rintro e w4 ⟨A2, c2, D2, d2, rfl, hC2, hI2, hb4⟩
              have H4 := Lib.hid (H3.out.trans (hb4.mono H3.out.size))
              have HC2 := Lib.hid hC2
              have HI2 := Lib.hid hI2
              clear hC2 hI2
              try go_simp
              refine hK _ _ (HS.out _ H4.out) ?_
              clear hK K hHeld
              have hHeld := HS.out _ H4.out
              try simp only [Act.put, List.setIfInBounds_toArray, List.set_cons_zero, List.set_cons_succ]
              refine wpAnyH_take (i := 5) (oi := ?oi5u136) (v := ?v5u136) ?hi5u136 (by kernel_rfl) (by kernel_rfl) (by kernel_rfl) ?hQ5u136 (Or.inl ⟨?hw5u136, ?hy5u136⟩) hHeld ?rest5u136
              case hi5u136 => (simp only [List.getElem?_toArray, List.getElem?_cons_succ, List.getElem?_cons_zero]; exact rfl)
              case hQ5u136 => exact fun _ _ _ h => h
              case hw5u136 => rfl
              case hy5u136 => (intro w hSw; (try dsimp only at hSw); go_simp <;> with_reducible rfl)
              try simp only [Act.put, List.setIfInBounds_toArray, List.set_cons_zero, List.set_cons_succ]
              refine wpAnyH_take (i := 6) (oi := ?oi6u137) (v := ?v6u137) ?hi6u137 (by kernel_rfl) (by kernel_rfl) (by kernel_rfl) ?hQ6u137 (Or.inl ⟨?hw6u137, ?hy6u137⟩) hHeld ?rest6u137
              case hi6u137 => (simp only [List.getElem?_toArray, List.getElem?_cons_succ, List.getElem?_cons_zero]; exact rfl)
              case hQ6u137 => exact fun _ _ _ h => h
              case hw6u137 => rfl
              case hy6u137 => (intro w hSw; (try dsimp only at hSw); go_simp <;> with_reducible rfl)
              try simp only [Act.put, List.setIfInBounds_toArray, List.set_cons_zero, List.set_cons_succ]
              refine wpAnyH_take (i := 7) (oi := ?oi7u138) (v := ?v7u138) ?hi7u138 (by kernel_rfl) (by kernel_rfl) (by kernel_rfl) ?hQ7u138 (Or.inl ⟨?hw7u138, ?hy7u138⟩) hHeld ?rest7u138
              case hi7u138 => (simp only [List.getElem?_toArray, List.getElem?_cons_succ, List.getElem?_cons_zero]; exact rfl)
              case hQ7u138 => exact fun _ _ _ h => h
              case hw7u138 => rfl
              case hy7u138 => (intro w hSw; (try dsimp only at hSw); go_simp <;> with_reducible rfl)
              try simp only [Act.put, List.setIfInBounds_toArray, List.set_cons_zero, List.set_cons_succ]
              refine wpAnyH_take (i := 8) (oi := ?oi8u139) (v := ?v8u139) ?hi8u139 (by kernel_rfl) (by kernel_rfl) (by kernel_rfl) ?hQ8u139 (Or.inl ⟨?hw8u139, ?hy8u139⟩) hHeld ?rest8u139
              case hi8u139 => (simp only [List.getElem?_toArray, List.getElem?_cons_succ, List.getElem?_cons_zero]; exact rfl)
              case hQ8u139 => exact fun _ _ _ h => h
              case hw8u139 => rfl
              case hy8u139 => (intro w hSw; (try dsimp only at hSw); go_simp <;> with_reducible rfl)
              try simp only [Act.put, List.setIfInBounds_toArray, List.set_cons_zero, List.set_cons_succ]
              refine wpAnyH_take (i := 9) (oi := ?oi9u140) (v := ?v9u140) ?hi9u140 (by kernel_rfl) (by kernel_rfl) (by kernel_rfl) ?hQ9u140 (Or.inl ⟨?hw9u140, ?hy9u140⟩) hHeld ?rest9u140
              case hi9u140 => (simp only [List.getElem?_toArray, List.getElem?_cons_succ, List.getElem?_cons_zero]; exact rfl)
              case hQ9u140 => exact fun _ _ _ h => h
              case hw9u140 => rfl
              case hy9u140 => (intro w hSw; (try dsimp only at hSw); go_simp <;> with_reducible rfl)
              try simp only [Act.put, List.setIfInBounds_toArray, List.set_cons_zero, List.set_cons_succ]
              have HY := H4
              have Hz := Lib.hid ((hb4.block gb (block_lt HZ3.out)).trans HZ3.out)
              clear hb4
              generalize w4 = Y at *
              obtain ⟨z0, z1, z2, zl, zf0, zf1, zf2⟩ := cells3 Hz.out
              obtain ⟨F, hF, hzF, hkF⟩ := store_heap (A := A2) (n := hL2.length) (c := c2) (B := B1) (m := 0) (d := d1) (r := 7) Hz.out
              have HF := Lib.hid (HY.out.trans (hkF.bel.mono Hgb.out))
              have HC2F := Lib.hid (HC2.out.kq hkF (HC2.out.off_heap (by decide) Hz.out))
              have HI2F := Lib.hid (HI2.out.kq hkF (HI2.out.off_heap (by decide) Hz.out))
              have HzF := Lib.hid hzF
              refine held_one (i := 11) (o := ?oi11u141) (by kernel_rfl) ?hi11u141 (fun K hK => ?rest11u141)
              case hi11u141 => (simp only [List.getElem?_toArray, List.getElem?_cons_succ, List.getElem?_cons_zero]; exact rfl)
              go_simp
              rw [← hF]
              refine hK _ _ (HS.out _ HF.out) ?_
              clear hK K hHeld
              have hHeld := HS.out _ HF.out
              try simp only [Act.put, List.setIfInBounds_toArray, List.set_cons_zero, List.set_cons_succ]
              refine wpAnyH_take (i := 12) (oi := ?oi12u142) (v := ?v12u142) ?hi12u142 (by kernel_rfl) (by kernel_rfl) (by kernel_rfl) ?hQ12u142 (Or.inl ⟨?hw12u142, ?hy12u142⟩) hHeld ?rest12u142
              case hi12u142 => (simp only [List.getElem?_toArray, List.getElem?_cons_succ, List.getElem?_cons_zero]; exact rfl)
              case hQ12u142 => exact fun _ _ _ h => h
              case hw12u142 => rfl
              case hy12u142 => (intro w hSw; (try dsimp only at hSw); go_simp <;> with_reducible rfl)
              try simp only [Act.put, List.setIfInBounds_toArray, List.set_cons_zero, List.set_cons_succ]
              refine wpAnyH_take (i := 13) (oi := ?oi13u143) (v := ?v13u143) ?hi13u143 (by kernel_rfl) (by kernel_rfl) (by kernel_rfl) ?hQ13u143 (Or.inl ⟨?hw13u143, ?hy13u143⟩) hHeld ?rest13u143
              case hi13u143 => (simp only [List.getElem?_toArray, List.getElem?_cons_succ, List.getElem?_cons_zero]; exact rfl)
              case hQ13u143 => exact fun _ _ _ h => h
              case hw13u143 => rfl
              case hy13u143 => (intro w hSw; (try dsimp only at hSw); go_simp <;> with_reducible rfl)
              try simp only [Act.put, List.setIfInBounds_toArray, List.set_cons_zero, List.set_cons_succ]
              refine wpAnyH_take (i := 14) (oi := ?oi14u144) (v := ?v14u144) ?hi14u144 (by kernel_rfl) (by kernel_rfl) (by kernel_rfl) ?hQ14u144 (Or.inl ⟨?hw14u144, ?hy14u144⟩) hHeld ?rest14u144
              case hi14u144 => (simp only [List.getElem?_toArray, List.getElem?_cons_succ, List.getElem?_cons_zero]; exact rfl)
              case hQ14u144 => exact fun _ _ _ h => h
              case hw14u144 => rfl
              case hy14u144 => (intro w hSw; (try dsimp only at hSw); go_simp <;> with_reducible rfl)
              try simp only [Act.put, List.setIfInBounds_toArray, List.set_cons_zero, List.set_cons_succ]
              refine wpAnyH_done (by kernel_rfl) ?_ _
              clear hzF hkF hF z0 z1 z2 zl zf0 zf1 zf2 hHeld
              go_wp2_with fail
              go_meet
              exact ⟨rfl, rfl, HF.out⟩
        case rest =>
          obtain ⟨rfl, rfl, hbn⟩ := hcut
          replace hb1 := hb1.trans (hbn.mono hb1.size)
          replace hB1 := hB1.below hbn
          replace hI1 := hI1.below hbn
          replace hB2 := hB2.below hbn
          replace hI2 := hI2.below hbn
          clear hbn
          generalize wc = X at *
          go_upto_region 5 with fail
          go_cut [17, 18] from 70 to 74 (fun v1 v2 wx => ∃ g3 : Nat, v1 = .pointer (some ⟨g3, 0, none⟩) ∧ v2 = .bool true ∧ HB wx g3 hL3 [1] 7 ∧ Below X.heap.size X wx)
          case first =>
            obtain ⟨A1, c1, B1, d1, x1, hC1, hN1⟩ := hB2
            obtain ⟨y0, y1, y2, yl⟩ := open3 x1
            have hu := hUnify_any A1 B1 7 c1 0 d1 7 hL2 [] 1 6 X hC1 hN1 hput2_ok.good (trOk_nil _) (by omega) (by omega)
            rw [huniz1] at hu
            have Hu := Lib.hid hu
            clear hu hC1 hN1 hI1 hI2 hB1
            go_wp2_with (first
              | (go_at_call 23; go_must (refine Hu.out.mono ?_); rintro e wn ⟨hbn, A5, n5, c5, B5, m5, d5, rfl, hC5, hI5, _⟩))
            go_meet
            have e5 := hC5.len
            have f5 := hI5.len
            subst e5 f5
            exact ⟨wn.heap.size, rfl, rfl, ⟨A5, c5, B5, d5, alloc_at rfl, hC5.below (bas _ _), hI5.below (bas _ _)⟩, hbn.alloc hbn.size _⟩
          case rest =>
            obtain ⟨g3, rfl, rfl, hB3, hbn⟩ := hcut
            replace hb1 := hb1.trans (hbn.mono hb1.size)
            replace hB1 := hB1.below hbn
            replace hI1 := hI1.below hbn
            replace hB2 := hB2.below hbn
            replace hI2 := hI2.below hbn
            clear hbn
            generalize wc = X at *
            go_upto_region 6 with fail
            go_cut [19, 20] from 75 to 79 (fun v1 v2 wx => ∃ E k, v1 = .slice E 5 k ∧ v2 = .bool true ∧ IsC wx E 5 k hX ∧ Below X.heap.size X wx)
            case first =>
              obtain ⟨A1, c1, B1, d1, x1, hC1, hN1⟩ := hB3
              obtain ⟨y0, y1, y2, yl⟩ := open3 x1
              have hu := hGet_any A1 B1 7 c1 1 d1 7 0 hL3 X hC1 hL3_ok.1 (by omega)
              rw [hgetz1] at hu
              have Hu := Lib.hid hu
              clear hu hC1 hN1 hI1 hI2 hB1 hB2
              go_wp2_with (first
                | (go_at_call 21; go_must (refine Hu.out.mono ?_); rintro e wn ⟨hbn, A5, n5, c5, rfl, hC5⟩))
              go_meet
              have e5 := hC5.len
              subst e5
              exact ⟨_, _, rfl, rfl, hC5, hbn⟩
            case rest =>
              obtain ⟨E, ek, rfl, rfl, hE, hbn⟩ := hcut
              replace hb1 := hb1.trans (hbn.mono hb1.size)
              replace hB1 := hB1.below hbn
              replace hI1 := hI1.below hbn
              replace hB2 := hB2.below hbn
              replace hI2 := hI2.below hbn
              replace hB3 := hB3.below hbn
              clear hbn
              generalize wc = X at *
              go_upto_region 7 with fail
              go_cut [21, 22] from 80 to 84 (fun v1 v2 wx => ∃ g4 : Nat, v1 = .pointer (some ⟨g4, 0, none⟩) ∧ v2 = .bool false ∧ HB wx g4 hL2 [] 7 ∧ Below X.heap.size X wx)
              case first =>
                obtain ⟨A1, c1, B1, d1, x1, hC1, hN1⟩ := hB2
                obtain ⟨y0, y1, y2, yl⟩ := open3 x1
                have hu := hUnify_any A1 B1 7 c1 0 d1 7 hL2 [] 1 2 X hC1 hN1 hput2_ok.good (trOk_nil _) (by omega) (by omega)
                rw [huniz2] at hu
                have Hu := Lib.hid hu
                have HC1 := Lib.hid hC1
                have HN1 := Lib.hid hN1
                clear hu hC1 hN1 hI1 hI2 hB1 hE hB3
                go_wp2_with (first
                  | (go_at_call 23; go_must (refine Hu.out.mono ?_); rintro e wn ⟨hbn, rfl⟩))
                go_meet
                exact ⟨wn.heap.size, rfl, rfl, ⟨A1, c1, B1, d1, alloc_at rfl, (HC1.out.below hbn).below (bas _ _), (HN1.out.below hbn).below (bas _ _)⟩, hbn.alloc hbn.size _⟩
              case rest =>
                obtain ⟨g4, rfl, rfl, hB4, hbn⟩ := hcut
                replace hb1 := hb1.trans (hbn.mono hb1.size)
                replace hB1 := hB1.below hbn
                replace hI1 := hI1.below hbn
                replace hB2 := hB2.below hbn
                replace hI2 := hI2.below hbn
                replace hB3 := hB3.below hbn
                replace hE := hE.below hbn
                clear hbn
                generalize wc = X at *
                go_upto_region 8 with fail
                go_cut [23] from 85 to 88 (fun v1 wx => ∃ g5 : Nat, v1 = .pointer (some ⟨g5, 0, none⟩) ∧ HB wx g5 hL1 [] 7 ∧ Below X.heap.size X wx)
                case first =>
                  obtain ⟨A1, c1, B1, d1, x1, hC1, hN1⟩ := hB1
                  obtain ⟨A3, c3, B3, d3, x3, hC3, hN3⟩ := hB3
                  have HC3 := Lib.hid hC3
                  have HN3 := Lib.hid hN3
                  obtain ⟨y0, y1, y2, yl⟩ := open3 x1
                  obtain ⟨q0, q1, q2, ql⟩ := open3 x3
                  refine wp_region_held_drew (S := fun w' => w'.cell? ⟨g1, 0, none⟩ = some (.slice A1 6 c1) ∧ w'.cell? ⟨g1, 1, none⟩ = some (.slice B1 0 d1) ∧ w'.cell? ⟨g1, 2, none⟩ = some (.int .i64 7) ∧ w'.cell? ⟨g3, 0, none⟩ = some (.slice A3 7 c3) ∧ w'.cell? ⟨g3, 1, none⟩ = some (.slice B3 1 d3) ∧ w'.cell? ⟨g3, 2, none⟩ = some (.int .i64 7)) (by kernel_rfl) ?gs8 ?gr8
                  case gs8 => exact ⟨y0, y1, y2, q0, q1, q2⟩
                  case gr8 =>
                    intro hHeld
                    have hS : ∀ w', Below X.heap.size X w' → w'.cell? ⟨g1, 0, none⟩ = some (.slice A1 6 c1) ∧ w'.cell? ⟨g1, 1, none⟩ = some (.slice B1 0 d1) ∧ w'.cell? ⟨g1, 2, none⟩ = some (.int .i64 7) ∧ w'.cell? ⟨g3, 0, none⟩ = some (.slice A3 7 c3) ∧ w'.cell? ⟨g3, 1, none⟩ = some (.slice B3 1 d3) ∧ w'.cell? ⟨g3, 2, none⟩ = some (.int .i64 7) := fun w' hb => ⟨(hb.cell (p := ⟨g1, 0, none⟩) yl).trans y0, (hb.cell (p := ⟨g1, 1, none⟩) yl).trans y1, (hb.cell (p := ⟨g1, 2, none⟩) yl).trans y2, (hb.cell (p := ⟨g3, 0, none⟩) ql).trans q0, (hb.cell (p := ⟨g3, 1, none⟩) ql).trans q1, (hb.cell (p := ⟨g3, 2, none⟩) ql).trans q2⟩
                    have HS := Lib.hid hS
                    clear hS y0 y1 y2 yl x1 hC1 hN1 hI1 hI2 hE hB2 hB4 q0 q1 q2 ql x3 hC3 hN3
                    have HV : Hid (Below X.heap.size X X.drew) := Lib.hid ((Below.refl _ _).drew)
                    generalize X.drew = V at *

                    refine wpAnyH_take (i := 0) (oi := ?oi0u145) (v := ?v0u145) ?hi0u145 (by kernel_rfl) (by kernel_rfl) (by kernel_rfl) ?hQ0u145 (Or.inl ⟨?hw0u145, ?hy0u145⟩) hHeld ?rest0u145
                    case hi0u145 => (simp only [List.getElem?_toArray, List.getElem?_cons_succ, List.getElem?_cons_zero]; exact rfl)
                    case hQ0u145 => exact fun _ _ _ h => h
                    case hw0u145 => rfl
                    case hy0u145 => (intro w hSw; (try dsimp only at hSw); go_simp <;> with_reducible rfl)
                    try simp only [Act.put, List.setIfInBounds_toArray, List.set_cons_zero, List.set_cons_succ]
                    refine wpAnyH_take (i := 1) (oi := ?oi1u146) (v := ?v1u146) ?hi1u146 (by kernel_rfl) (by kernel_rfl) (by kernel_rfl) ?hQ1u146 (Or.inl ⟨?hw1u146, ?hy1u146⟩) hHeld ?rest1u146
                    case hi1u146 => (simp only [List.getElem?_toArray, List.getElem?_cons_succ, List.getElem?_cons_zero]; exact rfl)
                    case hQ1u146 => exact fun _ _ _ h => h
                    case hw1u146 => rfl
                    case hy1u146 => (intro w hSw; (try dsimp only at hSw); go_simp <;> with_reducible rfl)
                    try simp only [Act.put, List.setIfInBounds_toArray, List.set_cons_zero, List.set_cons_succ]
                    refine held_two (i := 2) (j := 4) (oi := ?oi2u147) (oj := ?oi4u147) (by kernel_rfl) ?hi2u147 ?hi4u147 (fun K hK => ?rest2u147) (fun K hK => ?rest4u147)
                    case hi2u147 => (simp only [List.getElem?_toArray, List.getElem?_cons_succ, List.getElem?_cons_zero]; exact rfl)
                    case hi4u147 => (simp only [List.getElem?_toArray, List.getElem?_cons_succ, List.getElem?_cons_zero]; exact rfl)
                    · go_simp
                      
                      go_at_call 25
                      refine (mark_head A1 B1 c1 d1 _).mono ?_
                      rintro e w2 ⟨rfl, hb2⟩
                      have H2 := Lib.hid (HV.out.trans (hb2.mono HV.out.size))
                      try go_simp
                      refine hK _ _ (HS.out _ H2.out) ?_
                      clear hK K hHeld
                      have hHeld := HS.out _ H2.out
                      try simp only [Act.put, List.setIfInBounds_toArray, List.set_cons_zero, List.set_cons_succ]
                      refine held_two (i := 3) (j := 4) (oi := ?oi3u148) (oj := ?oi4u148) (by kernel_rfl) ?hi3u148 ?hi4u148 (fun K hK => ?rest3u148) (fun K hK => ?rest4u148)
                      case hi3u148 => (simp only [List.getElem?_toArray, List.getElem?_cons_succ, List.getElem?_cons_zero]; exact rfl)
                      case hi4u148 => (simp only [List.getElem?_toArray, List.getElem?_cons_succ, List.getElem?_cons_zero]; exact rfl)
                      · go_simp
                        
                        go_at_call 29
                        refine (undo_head A3 B3 c3 d3 _ (HC3.out.below H2.out) (HN3.out.below H2.out)).mono ?_
                        rintro e w3 ⟨Au, cu, Bu, du, rfl, hCu, hIu, hb3⟩
                        have H3 := Lib.hid (H2.out.trans (hb3.mono H2.out.size))
                        have HCu := Lib.hid hCu
                        have HIu := Lib.hid hIu
                        clear hCu hIu
                        try go_simp
                        refine hK _ _ (HS.out _ H3.out) ?_
                        clear hK K hHeld
                        have hHeld := HS.out _ H3.out
                        try simp only [Act.put, List.setIfInBounds_toArray, List.set_cons_zero, List.set_cons_succ]
                        refine held_one (i := 4) (o := ?oi4u149) (by kernel_rfl) ?hi4u149 (fun K hK => ?rest4u149)
                        case hi4u149 => (simp only [List.getElem?_toArray, List.getElem?_cons_succ, List.getElem?_cons_zero]; exact rfl)
                        go_simp
                        refine hK _ _ (HS.out ((w3.alloc Oz)) (H3.out.alloc H3.out.size _)) ?_
                        clear hK K hHeld
                        have hHeld := HS.out ((w3.alloc Oz)) (H3.out.alloc H3.out.size _)
                        try simp only [Act.put, List.setIfInBounds_toArray, List.set_cons_zero, List.set_cons_succ]
                        have HY := Lib.hid (H3.out.alloc H3.out.size Oz)
                        have Hz := Lib.hid (show (w3.alloc Oz).heap[w3.heap.size]? = some (.cells #[.slice none 0 0, .slice none 0 0, .int .i64 0] 25 (0, 0)) from alloc_at rfl)
                        have Hgb : Hid (X.heap.size ≤ w3.heap.size) := Lib.hid H3.out.size
                        have HC2 := Lib.hid (HCu.out.below (bas w3 Oz))
                        generalize w3.alloc Oz = Y at *
                        generalize w3.heap.size = gb at *
                        
                        obtain ⟨z0, z1, z2, zl⟩ := open3 Hz.out
                        have zf0 := frozen_of Hz.out 0
                        have zf1 := frozen_of Hz.out 1
                        have zf2 := frozen_of Hz.out 2
                        have hkF : Kq gb Y (((Y.setCell ⟨gb, 0, none⟩ (.slice Au 6 cu)).setCell ⟨gb, 1, none⟩ (.slice Bu 0 du)).setCell ⟨gb, 2, none⟩ (.int .i64 7)) := ((Kq.set Y 0 _).trans (Kq.set _ 1 _)).trans (Kq.set _ 2 _)
                        have HF := Lib.hid (HY.out.trans (hkF.bel.mono Hgb.out))
                        have HC2F := Lib.hid (HC2.out.kq hkF (HC2.out.off_heap (by decide) Hz.out))
                        have hzF : (((Y.setCell ⟨gb, 0, none⟩ (.slice Au 6 cu)).setCell ⟨gb, 1, none⟩ (.slice Bu 0 du)).setCell ⟨gb, 2, none⟩ (.int .i64 7)).heap[gb]? = some (.cells #[.slice Au 6 cu, .slice Bu 0 du, .int .i64 7] 25 (0, 0)) := by
                          have h1 := set_block (k := 0) Hz.out (.slice Au 6 cu)
                          have h2 := set_block (k := 1) h1 (.slice Bu 0 du)
                          have h3 := set_block (k := 2) h2 (.int .i64 7)
                          simpa using h3
                        have HzF := Lib.hid hzF
                        refine held_one (i := 5) (o := ?oi5u150) (by kernel_rfl) ?hi5u150 (fun K hK => ?rest5u150)
                        case hi5u150 => (simp only [List.getElem?_toArray, List.getElem?_cons_succ, List.getElem?_cons_zero]; exact rfl)
                        go_simp
                        refine hK _ _ (HS.out _ HF.out) ?_
                        clear hK K hHeld
                        have hHeld := HS.out _ HF.out
                        try simp only [Act.put, List.setIfInBounds_toArray, List.set_cons_zero, List.set_cons_succ]
                        refine wpAnyH_done (by kernel_rfl) ?_ _
                        clear hzF hkF z0 z1 z2 zl zf0 zf1 zf2 hHeld
                        generalize (((Y.setCell ⟨gb, 0, none⟩ (.slice Au 6 cu)).setCell ⟨gb, 1, none⟩ (.slice Bu 0 du)).setCell ⟨gb, 2, none⟩ (.int .i64 7)) = F at *
                        go_wp2_with fail
                        go_meet
                        exact ⟨gb, rfl, ⟨Au, cu, Bu, du, HzF.out, HC2F.out, isI_nil_any HIu.out⟩, HF.out⟩
                      · go_simp
                        refine hK _ _ (HS.out ((w2.alloc Oz)) (H2.out.alloc H2.out.size _)) ?_
                        clear hK K hHeld
                        have hHeld := HS.out ((w2.alloc Oz)) (H2.out.alloc H2.out.size _)
                        try simp only [Act.put, List.setIfInBounds_toArray, List.set_cons_zero, List.set_cons_succ]
                        have HO := Lib.hid (H2.out.alloc H2.out.size Oz)
                        have HZ := Lib.hid (show (w2.alloc Oz).heap[w2.heap.size]? = some (.cells #[.slice none 0 0, .slice none 0 0, .int .i64 0] 25 (0, 0)) from alloc_at rfl)
                        have Hgb : Hid (X.heap.size ≤ w2.heap.size) := Lib.hid H2.out.size
                        clear H2
                        generalize w2.heap.size = gb at *
                        generalize w2.alloc Oz = w2 at *
                        have H2 := HO
                        clear HO
                        refine held_one (i := 3) (o := ?oi3u151) (by kernel_rfl) ?hi3u151 (fun K hK => ?rest3u151)
                        case hi3u151 => (simp only [List.getElem?_toArray, List.getElem?_cons_succ, List.getElem?_cons_zero]; exact rfl)
                        go_simp
                        
                        go_at_call 29
                        refine (undo_head A3 B3 c3 d3 _ (HC3.out.below H2.out) (HN3.out.below H2.out)).mono ?_
                        rintro e w3 ⟨Au, cu, Bu, du, rfl, hCu, hIu, hb3⟩
                        have H3 := Lib.hid (H2.out.trans (hb3.mono H2.out.size))
                        have HCu := Lib.hid hCu
                        have HIu := Lib.hid hIu
                        clear hCu hIu
                        try go_simp
                        refine hK _ _ (HS.out _ H3.out) ?_
                        clear hK K hHeld
                        have hHeld := HS.out _ H3.out
                        try simp only [Act.put, List.setIfInBounds_toArray, List.set_cons_zero, List.set_cons_succ]
                        have HY := H3
                        have Hz := Lib.hid ((hb3.block gb (block_lt HZ.out)).trans HZ.out)
                        have HC2 := HCu
                        clear hb3
                        generalize w3 = Y at *
                        
                        obtain ⟨z0, z1, z2, zl⟩ := open3 Hz.out
                        have zf0 := frozen_of Hz.out 0
                        have zf1 := frozen_of Hz.out 1
                        have zf2 := frozen_of Hz.out 2
                        have hkF : Kq gb Y (((Y.setCell ⟨gb, 0, none⟩ (.slice Au 6 cu)).setCell ⟨gb, 1, none⟩ (.slice Bu 0 du)).setCell ⟨gb, 2, none⟩ (.int .i64 7)) := ((Kq.set Y 0 _).trans (Kq.set _ 1 _)).trans (Kq.set _ 2 _)
                        have HF := Lib.hid (HY.out.trans (hkF.bel.mono Hgb.out))
                        have HC2F := Lib.hid (HC2.out.kq hkF (HC2.out.off_heap (by decide) Hz.out))
                        have hzF : (((Y.setCell ⟨gb, 0, none⟩ (.slice Au 6 cu)).setCell ⟨gb, 1, none⟩ (.slice Bu 0 du)).setCell ⟨gb, 2, none⟩ (.int .i64 7)).heap[gb]? = some (.cells #[.slice Au 6 cu, .slice Bu 0 du, .int .i64 7] 25 (0, 0)) := by
                          have h1 := set_block (k := 0) Hz.out (.slice Au 6 cu)
                          have h2 := set_block (k := 1) h1 (.slice Bu 0 du)
                          have h3 := set_block (k := 2) h2 (.int .i64 7)
                          simpa using h3
                        have HzF := Lib.hid hzF
                        refine held_one (i := 5) (o := ?oi5u152) (by kernel_rfl) ?hi5u152 (fun K hK => ?rest5u152)
                        case hi5u152 => (simp only [List.getElem?_toArray, List.getElem?_cons_succ, List.getElem?_cons_zero]; exact rfl)
                        go_simp
                        refine hK _ _ (HS.out _ HF.out) ?_
                        clear hK K hHeld
                        have hHeld := HS.out _ HF.out
                        try simp only [Act.put, List.setIfInBounds_toArray, List.set_cons_zero, List.set_cons_succ]
                        refine wpAnyH_done (by kernel_rfl) ?_ _
                        clear hzF hkF z0 z1 z2 zl zf0 zf1 zf2 hHeld
                        generalize (((Y.setCell ⟨gb, 0, none⟩ (.slice Au 6 cu)).setCell ⟨gb, 1, none⟩ (.slice Bu 0 du)).setCell ⟨gb, 2, none⟩ (.int .i64 7)) = F at *
                        go_wp2_with fail
                        go_meet
                        exact ⟨gb, rfl, ⟨Au, cu, Bu, du, HzF.out, HC2F.out, isI_nil_any HIu.out⟩, HF.out⟩
                    · go_simp
                      refine hK _ _ (HS.out ((V.alloc Oz)) (HV.out.alloc HV.out.size _)) ?_
                      clear hK K hHeld
                      have hHeld := HS.out ((V.alloc Oz)) (HV.out.alloc HV.out.size _)
                      try simp only [Act.put, List.setIfInBounds_toArray, List.set_cons_zero, List.set_cons_succ]
                      have HO := Lib.hid (HV.out.alloc HV.out.size Oz)
                      have HZ := Lib.hid (show (V.alloc Oz).heap[V.heap.size]? = some (.cells #[.slice none 0 0, .slice none 0 0, .int .i64 0] 25 (0, 0)) from alloc_at rfl)
                      have Hgb : Hid (X.heap.size ≤ V.heap.size) := Lib.hid HV.out.size
                      clear HV
                      generalize V.heap.size = gb at *
                      generalize V.alloc Oz = V at *
                      have HV := HO
                      clear HO
                      refine held_one (i := 2) (o := ?oi2u153) (by kernel_rfl) ?hi2u153 (fun K hK => ?rest2u153)
                      case hi2u153 => (simp only [List.getElem?_toArray, List.getElem?_cons_succ, List.getElem?_cons_zero]; exact rfl)
                      go_simp
                      
                      go_at_call 25
                      refine (mark_head A1 B1 c1 d1 _).mono ?_
                      rintro e w2 ⟨rfl, hb2⟩
                      have H2 := Lib.hid (HV.out.trans (hb2.mono HV.out.size))
                      try go_simp
                      refine hK _ _ (HS.out _ H2.out) ?_
                      clear hK K hHeld
                      have hHeld := HS.out _ H2.out
                      try simp only [Act.put, List.setIfInBounds_toArray, List.set_cons_zero, List.set_cons_succ]
                      have HZ2 := Lib.hid ((hb2.block gb (block_lt HZ.out)).trans HZ.out)
                      refine held_one (i := 3) (o := ?oi3u154) (by kernel_rfl) ?hi3u154 (fun K hK => ?rest3u154)
                      case hi3u154 => (simp only [List.getElem?_toArray, List.getElem?_cons_succ, List.getElem?_cons_zero]; exact rfl)
                      go_simp
                      
                      go_at_call 29
                      refine (undo_head A3 B3 c3 d3 _ (HC3.out.below H2.out) (HN3.out.below H2.out)).mono ?_
                      rintro e w3 ⟨Au, cu, Bu, du, rfl, hCu, hIu, hb3⟩
                      have H3 := Lib.hid (H2.out.trans (hb3.mono H2.out.size))
                      have HCu := Lib.hid hCu
                      have HIu := Lib.hid hIu
                      clear hCu hIu
                      try go_simp
                      refine hK _ _ (HS.out _ H3.out) ?_
                      clear hK K hHeld
                      have hHeld := HS.out _ H3.out
                      try simp only [Act.put, List.setIfInBounds_toArray, List.set_cons_zero, List.set_cons_succ]
                      have HY := H3
                      have Hz := Lib.hid ((hb3.block gb (block_lt HZ2.out)).trans HZ2.out)
                      have HC2 := HCu
                      clear hb3 hb2
                      generalize w3 = Y at *
                      
                      obtain ⟨z0, z1, z2, zl⟩ := open3 Hz.out
                      have zf0 := frozen_of Hz.out 0
                      have zf1 := frozen_of Hz.out 1
                      have zf2 := frozen_of Hz.out 2
                      have hkF : Kq gb Y (((Y.setCell ⟨gb, 0, none⟩ (.slice Au 6 cu)).setCell ⟨gb, 1, none⟩ (.slice Bu 0 du)).setCell ⟨gb, 2, none⟩ (.int .i64 7)) := ((Kq.set Y 0 _).trans (Kq.set _ 1 _)).trans (Kq.set _ 2 _)
                      have HF := Lib.hid (HY.out.trans (hkF.bel.mono Hgb.out))
                      have HC2F := Lib.hid (HC2.out.kq hkF (HC2.out.off_heap (by decide) Hz.out))
                      have hzF : (((Y.setCell ⟨gb, 0, none⟩ (.slice Au 6 cu)).setCell ⟨gb, 1, none⟩ (.slice Bu 0 du)).setCell ⟨gb, 2, none⟩ (.int .i64 7)).heap[gb]? = some (.cells #[.slice Au 6 cu, .slice Bu 0 du, .int .i64 7] 25 (0, 0)) := by
                        have h1 := set_block (k := 0) Hz.out (.slice Au 6 cu)
                        have h2 := set_block (k := 1) h1 (.slice Bu 0 du)
                        have h3 := set_block (k := 2) h2 (.int .i64 7)
                        simpa using h3
                      have HzF := Lib.hid hzF
                      refine held_one (i := 5) (o := ?oi5u155) (by kernel_rfl) ?hi5u155 (fun K hK => ?rest5u155)
                      case hi5u155 => (simp only [List.getElem?_toArray, List.getElem?_cons_succ, List.getElem?_cons_zero]; exact rfl)
                      go_simp
                      refine hK _ _ (HS.out _ HF.out) ?_
                      clear hK K hHeld
                      have hHeld := HS.out _ HF.out
                      try simp only [Act.put, List.setIfInBounds_toArray, List.set_cons_zero, List.set_cons_succ]
                      refine wpAnyH_done (by kernel_rfl) ?_ _
                      clear hzF hkF z0 z1 z2 zl zf0 zf1 zf2 hHeld
                      generalize (((Y.setCell ⟨gb, 0, none⟩ (.slice Au 6 cu)).setCell ⟨gb, 1, none⟩ (.slice Bu 0 du)).setCell ⟨gb, 2, none⟩ (.int .i64 7)) = F at *
                      go_wp2_with fail
                      go_meet
                      exact ⟨gb, rfl, ⟨Au, cu, Bu, du, HzF.out, HC2F.out, isI_nil_any HIu.out⟩, HF.out⟩
                case rest =>
                  obtain ⟨g5, rfl, hB5, hbn⟩ := hcut
                  replace hb1 := hb1.trans (hbn.mono hb1.size)
                  replace hB1 := hB1.below hbn
                  replace hI1 := hI1.below hbn
                  replace hB2 := hB2.below hbn
                  replace hI2 := hI2.below hbn
                  replace hB3 := hB3.below hbn
                  replace hB4 := hB4.below hbn
                  replace hE := hE.below hbn
                  clear hbn
                  generalize wc = X at *
                  go_upto_region 9 with fail
                  go_cut [24, 25] from 89 to 93 (fun v1 v2 wx => ∃ E k, v1 = .slice E 2 k ∧ v2 = .bool true ∧ IsC wx E 2 k hY ∧ Below X.heap.size X wx)
                  case first =>
                    obtain ⟨A1, c1, B1, d1, x1, hC1, hN1⟩ := hB2
                    obtain ⟨y0, y1, y2, yl⟩ := open3 x1
                    have hu := hGet_any A1 B1 7 c1 0 d1 7 2 hL2 X hC1 hput2_ok.good (by omega)
                    rw [hgetz2] at hu
                    have Hu := Lib.hid hu
                    clear hu hC1 hN1 hI1 hI2 hB1 hB3 hB4 hB5 hE
                    go_wp2_with (first
                      | (go_at_call 21; go_must (refine Hu.out.mono ?_); rintro e wn ⟨hbn, A5, n5, c5, rfl, hC5⟩))
                    go_meet
                    have e5 := hC5.len
                    subst e5
                    exact ⟨_, _, rfl, rfl, hC5, hbn⟩
                  case rest =>
                    obtain ⟨G, gk, rfl, rfl, hG, hbn⟩ := hcut
                    replace hb1 := hb1.trans (hbn.mono hb1.size)
                    replace hB1 := hB1.below hbn
                    replace hI1 := hI1.below hbn
                    replace hB2 := hB2.below hbn
                    replace hI2 := hI2.below hbn
                    replace hB3 := hB3.below hbn
                    replace hB4 := hB4.below hbn
                    replace hB5 := hB5.below hbn
                    replace hE := hE.below hbn
                    clear hbn
                    generalize wc = X at *
                    obtain ⟨A1, c1, B1, d1, ⟨hC1, hN1⟩, hY1⟩ := hB1.open
                    obtain ⟨A2, c2, B2, d2, ⟨hC2, hN2⟩, hY2⟩ := hB2.open
                    obtain ⟨A3, c3, B3, d3, ⟨hC3, hN3⟩, hY3⟩ := hB3.open
                    obtain ⟨A4, c4, B4, d4, ⟨hC4, hN4⟩, hY4⟩ := hB4.open
                    obtain ⟨A5, c5, B5, d5, ⟨hC5, hN5⟩, hY5⟩ := hB5.open
                    obtain ⟨ga, off, rfl, hga, _, k0, k1, k2⟩ := hC3.at_ (k := 1) (c := ⟨1, ⟨#[]⟩, 6⟩) rfl
                    have hcap3 := hC3.sl.hcap
                    have hmax3 := hC3.sl.hmax
                    unfold maxLen at hmax3
                    simp only [hL1, hL2, hL3, List.length_cons, List.length_nil, List.length_append, Nat.zero_add, Nat.reduceAdd] at hY1 hY2 hY3 hY4 hY5 hcap3
                    have hYa : ∀ w', Below X.heap.size X w' → w'.cell? ⟨ga, off + 3, none⟩ = some (.int .i64 1) ∧ w'.cell? ⟨ga, off + 3 + 1, none⟩ = some (.string ⟨#[]⟩) ∧ w'.cell? ⟨ga, off + 3 + 2, none⟩ = some (.int .i64 6) ∧ ga < w'.heap.size := fun w' hb => ⟨(hb.cell (p := ⟨ga, off + 1 * 3, none⟩) hga).trans k0, (hb.cell (p := ⟨ga, off + 1 * 3 + 1, none⟩) hga).trans k1, (hb.cell (p := ⟨ga, off + 1 * 3 + 2, none⟩) hga).trans k2, Nat.lt_of_lt_of_le hga hb.size⟩
                    have HY1 := Lib.hid hY1
                    have HY2 := Lib.hid hY2
                    have HY3 := Lib.hid hY3
                    have HY4 := Lib.hid hY4
                    have HY5 := Lib.hid hY5
                    have HYa := Lib.hid hYa
                    have HC1 := Lib.hid hC1
                    have HN1 := Lib.hid hN1
                    have HC2 := Lib.hid hC2
                    have HN2 := Lib.hid hN2
                    have HC3 := Lib.hid hC3
                    have HN3 := Lib.hid hN3
                    have HC4 := Lib.hid hC4
                    have HN4 := Lib.hid hN4
                    have HC5 := Lib.hid hC5
                    have HN5 := Lib.hid hN5
                    have HI1 := Lib.hid hI1
                    have HI2 := Lib.hid hI2
                    have HE := Lib.hid hE
                    have HG := Lib.hid hG
                    have Hb1 := Lib.hid hb1
                    clear hY1 hY2 hY3 hY4 hY5 hYa hC1 hN1 hC2 hN2 hC3 hN3 hC4 hN4 hC5 hN5 hI1 hI2 hE hG hb1 hB1 hB2 hB3 hB4 hB5 k0 k1 k2 hga
                    go_upto_region 10 with fail
                    have hbX := Below.refl X.heap.size X
                    go_upto_region 11 with fail
                    refine wp_world' (Φ := fun Z => Below X.heap.size X Z ∧ IsC Z (some ⟨X.heap.size, 0, none⟩) 6 6 hL1) ⟨bas _ _, isC_lit8 (alloc_at rfl) rfl rfl (by omega) (cells_wf8 (by decide))⟩ ?_
                    rintro Z ⟨hbZ, hCw⟩
                    replace hbX := hbZ
                    clear hbZ
                    go_wp2_with fail
                    refine (ints_yes D1 _ e1 1 _ (HI1.out.below (by repeat (first | assumption | exact Below.refl _ _ | refine Below.drew ?_ | refine below_drewN ?_ _ | refine Below.alloc ?_ ?_ _ | refine Below.setCell ?_ ?_ _ | (apply Below.size; assumption) | (simp; done) | (simp; omega) | (have hz := hb.size; simp; omega) | (have hz := hb.size; omega) | omega))) (isI_lit8 (alloc_at rfl) (by unfold i64; omega))).mono ?_
                    rintro e wn ⟨rfl, hbn⟩
                    have HCw1 := Lib.hid ((hCw.below (bas _ _)).below hbn)
                    replace hbX := Below.trans (a := X) (B := X.heap.size) (by repeat (first | assumption | exact Below.refl _ _ | refine Below.drew ?_ | refine below_drewN ?_ _ | refine Below.alloc ?_ ?_ _ | refine Below.setCell ?_ ?_ _ | (apply Below.size; assumption) | (simp; done) | (simp; omega) | (have hz := hb.size; simp; omega) | (have hz := hb.size; omega) | omega)) (hbn.mono (by first | exact hbX.size | (have hz := hbX.size; simp; omega)))
                    clear hbn hCw
                    obtain ⟨s10, s11, s12, s1l⟩ := HY1.out _ hbX
                    go_wp2_with fail
                    refine (heaps_yes (HC1.out.below (by repeat (first | assumption | exact Below.refl _ _ | refine Below.drew ?_ | refine below_drewN ?_ _ | refine Below.alloc ?_ ?_ _ | refine Below.setCell ?_ ?_ _ | (apply Below.size; assumption) | (simp; done) | (simp; omega) | (have hz := hb.size; simp; omega) | (have hz := hb.size; omega) | omega))) (HN1.out.below (by repeat (first | assumption | exact Below.refl _ _ | refine Below.drew ?_ | refine below_drewN ?_ _ | refine Below.alloc ?_ ?_ _ | refine Below.setCell ?_ ?_ _ | (apply Below.size; assumption) | (simp; done) | (simp; omega) | (have hz := hb.size; simp; omega) | (have hz := hb.size; omega) | omega))) HCw1.out (isI_nil8 _ _) (by decide) (by decide) (by omega) (by omega)).mono ?_
                    rintro e wn ⟨rfl, hbn⟩
                    replace hbX := Below.trans (a := X) (B := X.heap.size) (by repeat (first | assumption | exact Below.refl _ _ | refine Below.drew ?_ | refine below_drewN ?_ _ | refine Below.alloc ?_ ?_ _ | refine Below.setCell ?_ ?_ _ | (apply Below.size; assumption) | (simp; done) | (simp; omega) | (have hz := hb.size; simp; omega) | (have hz := hb.size; omega) | omega)) (hbn.mono (by first | exact hbX.size | (have hz := hbX.size; simp; omega)))
                    clear hbn s10 s11 s12 s1l HCw1
                    go_wp2_with fail
                    refine (ints_yes D2 _ e2 1 _ (HI2.out.below (by repeat (first | assumption | exact Below.refl _ _ | refine Below.drew ?_ | refine below_drewN ?_ _ | refine Below.alloc ?_ ?_ _ | refine Below.setCell ?_ ?_ _ | (apply Below.size; assumption) | (simp; done) | (simp; omega) | (have hz := hb.size; simp; omega) | (have hz := hb.size; omega) | omega))) (isI_lit8 (alloc_at rfl) (by unfold i64; omega))).mono ?_
                    rintro e wn ⟨rfl, hbn⟩
                    replace hbX := Below.trans (a := X) (B := X.heap.size) (by repeat (first | assumption | exact Below.refl _ _ | refine Below.drew ?_ | refine below_drewN ?_ _ | refine Below.alloc ?_ ?_ _ | refine Below.setCell ?_ ?_ _ | (apply Below.size; assumption) | (simp; done) | (simp; omega) | (have hz := hb.size; simp; omega) | (have hz := hb.size; omega) | omega)) (hbn.mono (by first | exact hbX.size | (have hz := hbX.size; simp; omega)))
                    clear hbn
                    obtain ⟨s30, s31, s32, s3l⟩ := HY3.out _ hbX
                    go_wp2_with fail
                    refine (ints_yes B3 _ d3 1 _ (HN3.out.below (by repeat (first | assumption | exact Below.refl _ _ | refine Below.drew ?_ | refine below_drewN ?_ _ | refine Below.alloc ?_ ?_ _ | refine Below.setCell ?_ ?_ _ | (apply Below.size; assumption) | (simp; done) | (simp; omega) | (have hz := hb.size; simp; omega) | (have hz := hb.size; omega) | omega))) (isI_lit8 (alloc_at rfl) (by unfold i64; omega))).mono ?_
                    rintro e wn ⟨rfl, hbn⟩
                    replace hbX := Below.trans (a := X) (B := X.heap.size) (by repeat (first | assumption | exact Below.refl _ _ | refine Below.drew ?_ | refine below_drewN ?_ _ | refine Below.alloc ?_ ?_ _ | refine Below.setCell ?_ ?_ _ | (apply Below.size; assumption) | (simp; done) | (simp; omega) | (have hz := hb.size; simp; omega) | (have hz := hb.size; omega) | omega)) (hbn.mono (by first | exact hbX.size | (have hz := hbX.size; simp; omega)))
                    clear hbn s30 s31 s32 s3l
                    have hse := slot_yes
                    obtain ⟨s30, s31, s32, s3l⟩ := HY3.out _ hbX
                    obtain ⟨sa0, sa1, sa2, sal⟩ := HYa.out _ hbX
                    go_wp2_with (first | (go_at_call 39; go_must (refine (cf8_any _ _ _).mono ?_); rintro e wn ⟨rfl, hbn⟩; replace hbX := Below.trans (a := X) (B := X.heap.size) (by repeat (first | assumption | exact Below.refl _ _ | refine Below.drew ?_ | refine below_drewN ?_ _ | refine Below.alloc ?_ ?_ _ | refine Below.setCell ?_ ?_ _ | (apply Below.size; assumption) | (simp; done) | (simp; omega) | (have hz := hb.size; simp; omega) | (have hz := hb.size; omega) | omega)) (hbn.mono (by first | exact hbX.size | (have hz := hbX.size; simp; omega))); clear hbn) | (go_at_call 35; go_must (refine (cv8_any _ _).mono ?_); rintro e wn ⟨rfl, hbn⟩; replace hbX := Below.trans (a := X) (B := X.heap.size) (by repeat (first | assumption | exact Below.refl _ _ | refine Below.drew ?_ | refine below_drewN ?_ _ | refine Below.alloc ?_ ?_ _ | refine Below.setCell ?_ ?_ _ | (apply Below.size; assumption) | (simp; done) | (simp; omega) | (have hz := hb.size; simp; omega) | (have hz := hb.size; omega) | omega)) (hbn.mono (by first | exact hbX.size | (have hz := hbX.size; simp; omega))); clear hbn) | (go_at_call 40; go_must (refine (cn8_any _ _).mono ?_); rintro e wn ⟨rfl, hbn⟩; replace hbX := Below.trans (a := X) (B := X.heap.size) (by repeat (first | assumption | exact Below.refl _ _ | refine Below.drew ?_ | refine below_drewN ?_ _ | refine Below.alloc ?_ ?_ _ | refine Below.setCell ?_ ?_ _ | (apply Below.size; assumption) | (simp; done) | (simp; omega) | (have hz := hb.size; simp; omega) | (have hz := hb.size; omega) | omega)) (hbn.mono (by first | exact hbX.size | (have hz := hbX.size; simp; omega))); clear hbn))
                    refine (terms_yes (HE.out.below (by repeat (first | assumption | exact Below.refl _ _ | refine Below.drew ?_ | refine below_drewN ?_ _ | refine Below.alloc ?_ ?_ _ | refine Below.setCell ?_ ?_ _ | (apply Below.size; assumption) | (simp; done) | (simp; omega) | (have hz := hb.size; simp; omega) | (have hz := hb.size; omega) | omega))) (isC_lit8 (l := hX) (n := 5) (alloc_at rfl) rfl rfl (by omega) (cells_wf8 (by decide))) (by omega) (by omega)).mono ?_
                    rintro e wn ⟨rfl, hbn⟩
                    replace hbX := Below.trans (a := X) (B := X.heap.size) (by repeat (first | assumption | exact Below.refl _ _ | refine Below.drew ?_ | refine below_drewN ?_ _ | refine Below.alloc ?_ ?_ _ | refine Below.setCell ?_ ?_ _ | (apply Below.size; assumption) | (simp; done) | (simp; omega) | (have hz := hb.size; simp; omega) | (have hz := hb.size; omega) | omega)) (hbn.mono (by first | exact hbX.size | (have hz := hbX.size; simp; omega)))
                    clear hbn s30 s31 s32 s3l sa0 sa1 sa2 sal hse
                    obtain ⟨s40, s41, s42, s4l⟩ := HY4.out _ hbX
                    obtain ⟨s20, s21, s22, s2l⟩ := HY2.out _ hbX
                    go_wp2_with fail
                    refine (heaps_yes (HC4.out.below (by repeat (first | assumption | exact Below.refl _ _ | refine Below.drew ?_ | refine below_drewN ?_ _ | refine Below.alloc ?_ ?_ _ | refine Below.setCell ?_ ?_ _ | (apply Below.size; assumption) | (simp; done) | (simp; omega) | (have hz := hb.size; simp; omega) | (have hz := hb.size; omega) | omega))) (HN4.out.below (by repeat (first | assumption | exact Below.refl _ _ | refine Below.drew ?_ | refine below_drewN ?_ _ | refine Below.alloc ?_ ?_ _ | refine Below.setCell ?_ ?_ _ | (apply Below.size; assumption) | (simp; done) | (simp; omega) | (have hz := hb.size; simp; omega) | (have hz := hb.size; omega) | omega))) (HC2.out.below (by repeat (first | assumption | exact Below.refl _ _ | refine Below.drew ?_ | refine below_drewN ?_ _ | refine Below.alloc ?_ ?_ _ | refine Below.setCell ?_ ?_ _ | (apply Below.size; assumption) | (simp; done) | (simp; omega) | (have hz := hb.size; simp; omega) | (have hz := hb.size; omega) | omega))) (HN2.out.below (by repeat (first | assumption | exact Below.refl _ _ | refine Below.drew ?_ | refine below_drewN ?_ _ | refine Below.alloc ?_ ?_ _ | refine Below.setCell ?_ ?_ _ | (apply Below.size; assumption) | (simp; done) | (simp; omega) | (have hz := hb.size; simp; omega) | (have hz := hb.size; omega) | omega))) (by decide) (by decide) (by decide) (by decide)).mono ?_
                    rintro e wn ⟨rfl, hbn⟩
                    replace hbX := Below.trans (a := X) (B := X.heap.size) (by repeat (first | assumption | exact Below.refl _ _ | refine Below.drew ?_ | refine below_drewN ?_ _ | refine Below.alloc ?_ ?_ _ | refine Below.setCell ?_ ?_ _ | (apply Below.size; assumption) | (simp; done) | (simp; omega) | (have hz := hb.size; simp; omega) | (have hz := hb.size; omega) | omega)) (hbn.mono (by first | exact hbX.size | (have hz := hbX.size; simp; omega)))
                    clear hbn s40 s41 s42 s4l s20 s21 s22 s2l
                    obtain ⟨s50, s51, s52, s5l⟩ := HY5.out _ hbX
                    obtain ⟨s10, s11, s12, s1l⟩ := HY1.out _ hbX
                    go_wp2_with fail
                    refine (heaps_yes (HC5.out.below (by repeat (first | assumption | exact Below.refl _ _ | refine Below.drew ?_ | refine below_drewN ?_ _ | refine Below.alloc ?_ ?_ _ | refine Below.setCell ?_ ?_ _ | (apply Below.size; assumption) | (simp; done) | (simp; omega) | (have hz := hb.size; simp; omega) | (have hz := hb.size; omega) | omega))) (HN5.out.below (by repeat (first | assumption | exact Below.refl _ _ | refine Below.drew ?_ | refine below_drewN ?_ _ | refine Below.alloc ?_ ?_ _ | refine Below.setCell ?_ ?_ _ | (apply Below.size; assumption) | (simp; done) | (simp; omega) | (have hz := hb.size; simp; omega) | (have hz := hb.size; omega) | omega))) (HC1.out.below (by repeat (first | assumption | exact Below.refl _ _ | refine Below.drew ?_ | refine below_drewN ?_ _ | refine Below.alloc ?_ ?_ _ | refine Below.setCell ?_ ?_ _ | (apply Below.size; assumption) | (simp; done) | (simp; omega) | (have hz := hb.size; simp; omega) | (have hz := hb.size; omega) | omega))) (HN1.out.below (by repeat (first | assumption | exact Below.refl _ _ | refine Below.drew ?_ | refine below_drewN ?_ _ | refine Below.alloc ?_ ?_ _ | refine Below.setCell ?_ ?_ _ | (apply Below.size; assumption) | (simp; done) | (simp; omega) | (have hz := hb.size; simp; omega) | (have hz := hb.size; omega) | omega))) (by decide) (by decide) (by decide) (by decide)).mono ?_
                    rintro e wn ⟨rfl, hbn⟩
                    replace hbX := Below.trans (a := X) (B := X.heap.size) (by repeat (first | assumption | exact Below.refl _ _ | refine Below.drew ?_ | refine below_drewN ?_ _ | refine Below.alloc ?_ ?_ _ | refine Below.setCell ?_ ?_ _ | (apply Below.size; assumption) | (simp; done) | (simp; omega) | (have hz := hb.size; simp; omega) | (have hz := hb.size; omega) | omega)) (hbn.mono (by first | exact hbX.size | (have hz := hbX.size; simp; omega)))
                    clear hbn s50 s51 s52 s5l s10 s11 s12 s1l
                    go_wp2_with (first | (go_at_call 39; go_must (refine (cf8_any _ _ _).mono ?_); rintro e wn ⟨rfl, hbn⟩; replace hbX := Below.trans (a := X) (B := X.heap.size) (by repeat (first | assumption | exact Below.refl _ _ | refine Below.drew ?_ | refine below_drewN ?_ _ | refine Below.alloc ?_ ?_ _ | refine Below.setCell ?_ ?_ _ | (apply Below.size; assumption) | (simp; done) | (simp; omega) | (have hz := hb.size; simp; omega) | (have hz := hb.size; omega) | omega)) (hbn.mono (by first | exact hbX.size | (have hz := hbX.size; simp; omega))); clear hbn) | (go_at_call 35; go_must (refine (cv8_any _ _).mono ?_); rintro e wn ⟨rfl, hbn⟩; replace hbX := Below.trans (a := X) (B := X.heap.size) (by repeat (first | assumption | exact Below.refl _ _ | refine Below.drew ?_ | refine below_drewN ?_ _ | refine Below.alloc ?_ ?_ _ | refine Below.setCell ?_ ?_ _ | (apply Below.size; assumption) | (simp; done) | (simp; omega) | (have hz := hb.size; simp; omega) | (have hz := hb.size; omega) | omega)) (hbn.mono (by first | exact hbX.size | (have hz := hbX.size; simp; omega))); clear hbn) | (go_at_call 40; go_must (refine (cn8_any _ _).mono ?_); rintro e wn ⟨rfl, hbn⟩; replace hbX := Below.trans (a := X) (B := X.heap.size) (by repeat (first | assumption | exact Below.refl _ _ | refine Below.drew ?_ | refine below_drewN ?_ _ | refine Below.alloc ?_ ?_ _ | refine Below.setCell ?_ ?_ _ | (apply Below.size; assumption) | (simp; done) | (simp; omega) | (have hz := hb.size; simp; omega) | (have hz := hb.size; omega) | omega)) (hbn.mono (by first | exact hbX.size | (have hz := hbX.size; simp; omega))); clear hbn))
                    refine (terms_yes (HG.out.below (by repeat (first | assumption | exact Below.refl _ _ | refine Below.drew ?_ | refine below_drewN ?_ _ | refine Below.alloc ?_ ?_ _ | refine Below.setCell ?_ ?_ _ | (apply Below.size; assumption) | (simp; done) | (simp; omega) | (have hz := hb.size; simp; omega) | (have hz := hb.size; omega) | omega))) (isC_lit8 (l := hY) (n := 2) (alloc_at rfl) rfl rfl (by omega) (cells_wf8 (by decide))) (by omega) (by omega)).mono ?_
                    rintro e wn ⟨rfl, hbn⟩
                    replace hbX := Below.trans (a := X) (B := X.heap.size) (by repeat (first | assumption | exact Below.refl _ _ | refine Below.drew ?_ | refine below_drewN ?_ _ | refine Below.alloc ?_ ?_ _ | refine Below.setCell ?_ ?_ _ | (apply Below.size; assumption) | (simp; done) | (simp; omega) | (have hz := hb.size; simp; omega) | (have hz := hb.size; omega) | omega)) (hbn.mono (by first | exact hbX.size | (have hz := hbX.size; simp; omega)))
                    clear hbn
                    obtain ⟨s30, s31, s32, s3l⟩ := HY3.out _ hbX
                    go_wp2_with fail
                    refine (right_yes (HC3.out.below (by repeat (first | assumption | exact Below.refl _ _ | refine Below.drew ?_ | refine below_drewN ?_ _ | refine Below.alloc ?_ ?_ _ | refine Below.setCell ?_ ?_ _ | (apply Below.size; assumption) | (simp; done) | (simp; omega) | (have hz := hb.size; simp; omega) | (have hz := hb.size; omega) | omega))) (HN3.out.below (by repeat (first | assumption | exact Below.refl _ _ | refine Below.drew ?_ | refine below_drewN ?_ _ | refine Below.alloc ?_ ?_ _ | refine Below.setCell ?_ ?_ _ | (apply Below.size; assumption) | (simp; done) | (simp; omega) | (have hz := hb.size; simp; omega) | (have hz := hb.size; omega) | omega)))).mono ?_
                    rintro e wn ⟨rfl, hbn⟩
                    replace hbX := Below.trans (a := X) (B := X.heap.size) (by repeat (first | assumption | exact Below.refl _ _ | refine Below.drew ?_ | refine below_drewN ?_ _ | refine Below.alloc ?_ ?_ _ | refine Below.setCell ?_ ?_ _ | (apply Below.size; assumption) | (simp; done) | (simp; omega) | (have hz := hb.size; simp; omega) | (have hz := hb.size; omega) | omega)) (hbn.mono (by first | exact hbX.size | (have hz := hbX.size; simp; omega)))
                    clear hbn s30 s31 s32 s3l
                    go_wp2_with fail
                    refine (new0 _).mono ?_
                    rintro e wn ⟨rfl, hbn⟩
                    replace hbX := Below.trans (a := X) (B := X.heap.size) (by repeat (first | assumption | exact Below.refl _ _ | refine Below.drew ?_ | refine below_drewN ?_ _ | refine Below.alloc ?_ ?_ _ | refine Below.setCell ?_ ?_ _ | (apply Below.size; assumption) | (simp; done) | (simp; omega) | (have hz := hb.size; simp; omega) | (have hz := hb.size; omega) | omega)) (hbn.mono (by first | exact hbX.size | (have hz := hbX.size; simp; omega)))
                    clear hbn
                    go_wp2_with fail
                    refine (right_no8 _).mono ?_
                    rintro e wn ⟨rfl, hbn⟩
                    replace hbX := Below.trans (a := X) (B := X.heap.size) (by repeat (first | assumption | exact Below.refl _ _ | refine Below.drew ?_ | refine below_drewN ?_ _ | refine Below.alloc ?_ ?_ _ | refine Below.setCell ?_ ?_ _ | (apply Below.size; assumption) | (simp; done) | (simp; omega) | (have hz := hb.size; simp; omega) | (have hz := hb.size; omega) | omega)) (hbn.mono (by first | exact hbX.size | (have hz := hbX.size; simp; omega)))
                    clear hbn
                    go_wp2_with fail
                    refine (new4097 _).mono ?_
                    rintro e wn ⟨rfl, hbn⟩
                    replace hbX := Below.trans (a := X) (B := X.heap.size) (by repeat (first | assumption | exact Below.refl _ _ | refine Below.drew ?_ | refine below_drewN ?_ _ | refine Below.alloc ?_ ?_ _ | refine Below.setCell ?_ ?_ _ | (apply Below.size; assumption) | (simp; done) | (simp; omega) | (have hz := hb.size; simp; omega) | (have hz := hb.size; omega) | omega)) (hbn.mono (by first | exact hbX.size | (have hz := hbX.size; simp; omega)))
                    clear hbn
                    have hfd : ∀ w : World, (Instr.field 25 (.agg #[.slice none 0 0, .slice none 0 0, .int .i64 0]) 2).run Try.prog w = .ok (.int .i64 0) w := fun _ => by kernel_rfl
                    go_wp2
                    refine bodyPost_ret (v := .bool true) (by simp [results, Try.results11, go_sem, *]) rfl ?_
                    exact ⟨rfl, Hb1.out.trans (hbX.mono Hb1.out.size)⟩
end Go.Proofs.Ytlndjooddkjnoaa
