/- The walk of the law HeapRight. -/
import Derived.WalkMore
import Derived.Test.YtlndjooddkjnoaaLH2
import Derived.Test.YtlndjooddkjnoaaB0
set_option linter.unusedVariables false
set_option linter.unusedSimpArgs false
namespace Go.Proofs.Ytlndjooddkjnoaa
open Go.RowKit
set_option maxRecDepth 100000 in
set_option maxHeartbeats 8000000 in
theorem heapRight_walk (A : Option Addr) (n c : Nat) (l : List C) (B : Option Addr) (m d : Nat) (tr : List Int) (r : Int) (Aq : Option Addr) (nq cq : Nat) (ops : List Opr) (w : World) (h : IsC w A n c l) (hT : IsI w B m d tr) (hr : i64 r) (hq : IsOps w Aq nq cq ops) :
    Calls Try.prog 9 #[.agg #[.slice A n c, .slice B m d, .int .i64 r], .slice Aq nq cq] w (RetV w (.bool true)) := by
  cases hmay : mayH l tr r
  · go_enter Try.func9, Try.ntmps9
    go_upto_region 1 with fail
    refine wp_world' (Φ := fun X => Below w.heap.size w X ∧ HB X w.heap.size l tr r) ⟨bas _ _, HB.box h hT⟩ ?_
    rintro X ⟨hbX, hB⟩
    obtain ⟨g0, hg0⟩ : ∃ g0, g0 = w.heap.size := ⟨_, rfl⟩
    rw [← hg0] at hB ⊢
    clear hg0
    go_wp2_with fail
    refine (head8_any _).mono ?_
    rintro e w1 ⟨rfl, hbn⟩
    replace hB := hB.below hbn
    replace hbX := hbX.trans (hbn.mono hbX.size)
    clear hbn
    generalize w1 = X at *
    obtain ⟨A1, c1, B1, d1, ⟨hC1, hN1⟩, hY⟩ := hB.open
    have hm := may8 (r := r) hC1 hN1
    obtain ⟨y0, y1, y2, yl⟩ := hY _ (Below.refl _ _)
    rw [hmay] at hm
    clear hY hC1 hN1
    go_wp2_with fail
    refine hm.mono ?_
    rintro e2 w2 ⟨rfl, hbn⟩
    clear y0 y1 y2 yl hm
    replace hB := hB.below hbn
    replace hbX := hbX.trans (hbn.mono hbX.size)
    clear hbn
    generalize w2 = X at *
    go_wp2
    refine bodyPost_ret (v := .bool true) (by simp [results, Try.results9, go_sem, *]) rfl ?_
    exact ⟨rfl, hbX⟩
  obtain ⟨_, _, hok⟩ := mayH_iff hmay
  have Hok := Lib.hid hok
  have Hq := Lib.hid hq
  clear hok hq
  go_enter Try.func9, Try.ntmps9
  go_upto_region 1 with fail
  refine wp_world' (Φ := fun X => Below w.heap.size w X ∧ HB X w.heap.size l tr r) ⟨bas _ _, HB.box h hT⟩ ?_
  rintro X ⟨hbX, hB⟩
  obtain ⟨g0, hg0⟩ : ∃ g0, g0 = w.heap.size := ⟨_, rfl⟩
  rw [← hg0] at hB ⊢
  clear hg0
  go_wp2_with fail
  refine (head8_any _).mono ?_
  rintro e w1 ⟨rfl, hbn⟩
  replace hB := hB.below hbn
  replace hbX := hbX.trans (hbn.mono hbX.size)
  clear hbn
  generalize w1 = X at *
  obtain ⟨A1, c1, B1, d1, ⟨hC1, hN1⟩, hY⟩ := hB.open
  have hm := may8 (r := r) hC1 hN1
  obtain ⟨y0, y1, y2, yl⟩ := hY _ (Below.refl _ _)
  rw [hmay] at hm
  clear hY hC1 hN1
  go_wp2_with fail
  refine hm.mono ?_
  rintro e2 w2 ⟨rfl, hbn⟩
  clear y0 y1 y2 yl hm
  replace hB := hB.below hbn
  replace hbX := hbX.trans (hbn.mono hbX.size)
  clear hbn
  generalize w2 = X at *
  go_upto_region 4 with fail
  go_cut [6, 7] from 20 to 21 (fun v6 v7 wx => ∃ (gh : Nat) (Z : Option Addr), v6 = .pointer (some ⟨gh, 0, none⟩) ∧ v7 = .slice Z 0 0 ∧ HB wx gh l tr r ∧ X.heap.size ≤ gh ∧ Below X.heap.size X wx)
  case first =>
    obtain ⟨A1, c1, B1, d1, ⟨hC1, hN1⟩, hY⟩ := hB.open
    obtain ⟨y0, y1, y2, yl⟩ := hY _ (Below.refl _ _)
    have HC1 := Lib.hid hC1
    have HN1 := Lib.hid hN1
    clear hY hC1 hN1 hB
    go_wp2
    go_meet
    exact ⟨X.heap.size + 1, _, by first | rfl | simp, rfl, ⟨A1, c1, B1, d1, alloc_at (by simp), (HC1.out.below (bas _ _)).below (bas _ _), (HN1.out.below (bas _ _)).below (bas _ _)⟩, by omega, (bas _ _).alloc (by simp) _⟩
  case rest =>
    obtain ⟨gh, Z, rfl, rfl, hG, hgh, hbn⟩ := hcut
    have n0 : g0 ≠ gh := by have := hB.lt; omega
    have nw : w.heap.size ≤ gh := by have := hbX.size; omega
    replace hB := hB.below hbn
    replace hbX := hbX.trans (hbn.mono hbX.size)
    clear hbn hgh
    generalize wc = X at *
    refine ‹∀ (a : Act) (w : World), Code.wp _ _ _ a w → _› _ _ ?_
    have Hh0 := Lib.hid (show OkH ⟨l, tr, r⟩ ∧ AtL l.length [] ∧ Hst l tr l tr [] from ⟨Hok.out, atL_nil _, Hst.refl _ _⟩)
    go_wp2
    go_loopw [7, 8] (fun atv iv wr => ∃ (i : Nat) (L : List C) (TR ds a : List Int) (D : Option Addr) (pn e : Nat), i ≤ nq ∧ i ≤ 20 ∧ iv = .int .i64 i ∧ atv = .slice D pn e ∧ LInv w g0 gh l tr r wr L TR ds a D pn e) (fun _ iv _ => 20 - (intOf iv).toNat)
    case atStart => exact ⟨0, l, tr, [], [], Z, 0, 0, Nat.zero_le _, by omega, rfl, rfl, ⟨isI_nil8 _ _, by simp, by simp, Hok.out, atL_nil _, Hst.refl _ _, hG, hB, hbX⟩⟩
    case round =>
      clear hG hB hbX Hh0
      obtain ⟨i, L, TR, ds, a, D, pn, e, hi, hi20, rfl, rfl, hI⟩ := hrel
      obtain ⟨Ag0, cg0, Bg0, dg0, ⟨hCg0, hNg0⟩, hYg0⟩ := hI.heap.open
      obtain ⟨y0, y1, y2, yl⟩ := hYg0 _ (Below.refl _ _)
      have HYg0 := Lib.hid hYg0
      clear hYg0 hCg0 hNg0
      by_cases hlt : i < nq
      · by_cases hl2 : i < 20
        · have hd1 : decide ((i : Int) < (nq : Int)) = true := by simp; omega
          have hd2 : decide ((i : Int) < 20) = true := by simp; omega
          by_cases hl3 : L.length ≤ 300
          · have hd3 : decide ((L.length : Int) ≤ 300) = true := by simp; omega
            obtain ⟨bo, oo, o, Ao, no, co, rfl, hbo, hto, e0, e1, e2⟩ := ops_at Hq.out hlt
            obtain ⟨hqc, hqm⟩ := ops_cap Hq.out
            have hTl := hto.len
            subst hTl
            have e0' := (hI.low.cell (p := ⟨bo, oo + i * 3, none⟩) hbo).trans e0
            have hbo' := Nat.lt_of_lt_of_le hbo hI.low.size
            have hto' := hto.below hI.low
            have hTc := hto.sl.hmax
            have HI := Lib.hid hI
            have Hto := Lib.hid hto
            have E0 := Lib.hid e0
            have E1 := Lib.hid e1
            have E2 := Lib.hid e2
            have Hbo := Lib.hid hbo
            clear hI hto e0 e1 e2 hbo
            go_upto_region 8 with fail
            clear y0 y1 y2 yl
            obtain ⟨cd, hcd⟩ : ∃ cd, (decide (o.t.length ≤ 210) && rightB o.t) = cd := ⟨_, rfl⟩
            have Hcd := Lib.hid hcd
            clear hcd
            go_cut [52] from 38 to 51 (fun v wx => v = .bool cd ∧ Below wr.heap.size wr wx)
            case first =>
              by_cases h210 : 210 < o.t.length
              · have hz : ¬ (o.t.length : Int) ≤ 210 := by omega
                have hzz : decide (o.t.length ≤ 210) = false := by simp; omega
                go_wp2
                go_meet
                exact ⟨by rw [← Hcd.out, hzz]; rfl, Below.refl _ _⟩
              · have hz : (o.t.length : Int) ≤ 210 := by omega
                have hzz : decide (o.t.length ≤ 210) = true := by simp; omega
                have Hri := Lib.hid (rRight_any Ao o.t.length co o.t wr hto' (by omega))
                clear hto'
                cases hrt : rightB o.t
                · rw [hrt] at Hri
                  have Hrt := Lib.hid hrt
                  clear hrt
                  go_wp2_with (first | (go_at_call 17; go_must (refine Hri.out.mono ?_); rintro e wn ⟨rfl, hbn⟩))
                  go_meet
                  exact ⟨by rw [← Hcd.out, hzz, Hrt.out]; rfl, hbn⟩
                · rw [hrt] at Hri
                  have Hrt := Lib.hid hrt
                  clear hrt
                  go_wp2_with (first | (go_at_call 17; go_must (refine Hri.out.mono ?_); rintro e wn ⟨rfl, hbn⟩))
                  go_meet
                  exact ⟨by rw [← Hcd.out, hzz, Hrt.out]; rfl, hbn⟩
            case rest =>
              obtain ⟨rfl, hbn⟩ := hcut
              have HI1 := Lib.hid (HI.out.below hbn)
              clear HI e0' hbo' hto' hbn HYg0
              generalize wc = X at *
              refine ‹∀ (a : Act) (w : World), Code.wp _ _ _ a w → _› _ _ ?_
              go_cut [7, 9, 10, 11, 12] from 53 to 82 (fun atv _ _ _ _ wx => ∃ (L1 : List C) (ds1 a1 : List Int) (D1 : Option Addr) (p1 e1 : Nat), atv = .slice D1 p1 e1 ∧ LInv w g0 gh l tr r wx L1 TR ds1 a1 D1 p1 e1)
              case first =>
                cases cd
                · go_wp2
                  go_meet
                  exact ⟨L, ds, a, D, pn, e, rfl, HI1.out⟩
                · go_upto_region 9 with fail
                  obtain ⟨T, hTok, hTf, hTs⟩ := right_tree (t := o.t) (by have := Hcd.out; simp only [Bool.and_eq_true] at this; exact this.2)
                  obtain ⟨ok3, ds3, hs3⟩ := pRes_ok HI1.out.ok hTok HI1.out.atl
                  have Ok3 := Lib.hid ok3
                  have Hs3 := Lib.hid hs3
                  have hgX := HI1.out.heap.lt
                  have Hpl := Lib.hid (show ((putA L T a).1.length : Int) ≤ r → AtL (pRes L T a r).length (putA L T a).2.2 ∧ (putA L T a).2.2.length ≤ 1000 ∧ (putA L T a).2.1 < (pRes L T a r).length from fun hf => by
                    obtain ⟨_, _, q3, q4⟩ := put_okH HI1.out.ok hTok HI1.out.atl hf
                    unfold pRes
                    rw [if_pos hf]
                    exact ⟨q3, putA_row8 hTok L HI1.out.len, q4⟩)
                  clear ok3 hs3
                  go_cut [9, 10, 11, 12] from 53 to 65 (fun v10 v11 v12 v13 wx => ∃ (gx : Nat) (D1 : Option Addr) (p1 e1 : Nat) (q1 x1 : Int), v10 = .pointer (some ⟨gx, 0, none⟩) ∧ v11 = .int .i64 q1 ∧ v12 = .slice D1 p1 e1 ∧ v13 = .int .i64 x1 ∧ HB wx gx (pRes L T a r) TR r ∧ X.heap.size ≤ gx ∧ Below X.heap.size X wx ∧ ((((putA L T a).1.length : Int) ≤ r ∧ x1 = 0 ∧ q1 = ((putA L T a).2.1 : Nat) ∧ IsI wx D1 p1 e1 (putA L T a).2.2 ∧ (p1 ≠ 0 → ∀ z, D1 = some z → X.heap.size ≤ z.block)) ∨ (¬ ((putA L T a).1.length : Int) ≤ r ∧ x1 = 80)))
                  case first =>
                    obtain ⟨Ag, cg, Bg, dg, ⟨hCg, hNg⟩, hYg⟩ := HI1.out.heap.open
                    have hS : ∀ w', Below X.heap.size X w' → w'.cell? ⟨gh, 0, none⟩ = some (.slice Ag L.length cg) ∧ w'.cell? ⟨gh, 1, none⟩ = some (.slice Bg TR.length dg) ∧ w'.cell? ⟨gh, 2, none⟩ = some (.int .i64 r) ∧ w'.cell? ⟨bo, oo + i * 3, none⟩ = some (.slice Ao o.t.length co) := fun w' hb => by
                      obtain ⟨p0, p1, p2, _⟩ := hYg w' hb
                      exact ⟨p0, p1, p2, ((HI1.out.low.trans (hb.mono HI1.out.low.size)).cell (p := ⟨bo, oo + i * 3, none⟩) Hbo.out).trans E0.out⟩
                    have hz9 : (i : Int) < (nq : Int) := by omega
                    refine wp_region_held_drew (S := fun w' => w'.cell? ⟨gh, 0, none⟩ = some (.slice Ag L.length cg) ∧ w'.cell? ⟨gh, 1, none⟩ = some (.slice Bg TR.length dg) ∧ w'.cell? ⟨gh, 2, none⟩ = some (.int .i64 r) ∧ w'.cell? ⟨bo, oo + i * 3, none⟩ = some (.slice Ao o.t.length co)) (by kernel_rfl) ?gs9 ?gr9
                    case gs9 => exact hS _ (Below.refl _ _).drew
                    case gr9 =>
                      intro hHeld
                      have HS := Lib.hid hS
                      have HNg := Lib.hid hNg
                      have Hput := Lib.hid (fun wx (hb : Below X.heap.size X wx) => put8 (B := Bg) (d := dg) (tr := TR) (r := r) (hCg.below hb) (by rw [hTf]; exact (Hto.out.below HI1.out.low).below hb) (HI1.out.at_.below hb) HI1.out.ok hTok hTs HI1.out.len)
                      have HV : Hid (Below X.heap.size X X.drew) := Lib.hid ((Below.refl _ _).drew)
                      clear hS hYg hCg hNg hgX
                      generalize X.drew = V at *

                      refine wpAnyH_take (i := 0) (oi := ?oi0u1) (v := ?v0u1) ?hi0u1 (by kernel_rfl) (by kernel_rfl) (by kernel_rfl) ?hQ0u1 (Or.inl ⟨?hw0u1, ?hy0u1⟩) hHeld ?rest0u1
                      case hi0u1 => (simp only [List.getElem?_toArray, List.getElem?_cons_succ, List.getElem?_cons_zero]; exact rfl)
                      case hQ0u1 => exact fun _ _ _ h => h
                      case hw0u1 => rfl
                      case hy0u1 => (intro w hSw; (try dsimp only at hSw); go_simp <;> with_reducible rfl)
                      try simp only [Act.put, List.setIfInBounds_toArray, List.set_cons_zero, List.set_cons_succ]
                      refine wpAnyH_take (i := 1) (oi := ?oi1u2) (v := ?v1u2) ?hi1u2 (by kernel_rfl) (by kernel_rfl) (by kernel_rfl) ?hQ1u2 (Or.inl ⟨?hw1u2, ?hy1u2⟩) hHeld ?rest1u2
                      case hi1u2 => (simp only [List.getElem?_toArray, List.getElem?_cons_succ, List.getElem?_cons_zero]; exact rfl)
                      case hQ1u2 => exact fun _ _ _ h => h
                      case hw1u2 => rfl
                      case hy1u2 => (intro w hSw; (try dsimp only at hSw); go_simp <;> with_reducible rfl)
                      try simp only [Act.put, List.setIfInBounds_toArray, List.set_cons_zero, List.set_cons_succ]
                      refine wpAnyH_take (i := 2) (oi := ?oi2u3) (v := ?v2u3) ?hi2u3 (by kernel_rfl) (by kernel_rfl) (by kernel_rfl) ?hQ2u3 (Or.inl ⟨?hw2u3, ?hy2u3⟩) hHeld ?rest2u3
                      case hi2u3 => (simp only [List.getElem?_toArray, List.getElem?_cons_succ, List.getElem?_cons_zero]; exact rfl)
                      case hQ2u3 => exact fun _ _ _ h => h
                      case hw2u3 => rfl
                      case hy2u3 => (intro w hSw; (try dsimp only at hSw); go_simp <;> with_reducible rfl)
                      try simp only [Act.put, List.setIfInBounds_toArray, List.set_cons_zero, List.set_cons_succ]
                      refine wpAnyH_take (i := 3) (oi := ?oi3u4) (v := ?v3u4) ?hi3u4 (by kernel_rfl) (by kernel_rfl) (by kernel_rfl) ?hQ3u4 (Or.inl ⟨?hw3u4, ?hy3u4⟩) hHeld ?rest3u4
                      case hi3u4 => (simp only [List.getElem?_toArray, List.getElem?_cons_succ, List.getElem?_cons_zero]; exact rfl)
                      case hQ3u4 => exact fun _ _ _ h => h
                      case hw3u4 => rfl
                      case hy3u4 => (intro w hSw; (try dsimp only at hSw); go_simp <;> with_reducible rfl)
                      try simp only [Act.put, List.setIfInBounds_toArray, List.set_cons_zero, List.set_cons_succ]
                      refine wpAnyH_take (i := 4) (oi := ?oi4u5) (v := ?v4u5) ?hi4u5 (by kernel_rfl) (by kernel_rfl) (by kernel_rfl) ?hQ4u5 (Or.inl ⟨?hw4u5, ?hy4u5⟩) hHeld ?rest4u5
                      case hi4u5 => (simp only [List.getElem?_toArray, List.getElem?_cons_succ, List.getElem?_cons_zero]; exact rfl)
                      case hQ4u5 => exact fun _ _ _ h => h
                      case hw4u5 => rfl
                      case hy4u5 => (intro w hSw; (try dsimp only at hSw); go_simp <;> with_reducible rfl)
                      try simp only [Act.put, List.setIfInBounds_toArray, List.set_cons_zero, List.set_cons_succ]
                      refine wpAnyH_take (i := 5) (oi := ?oi5u6) (v := ?v5u6) ?hi5u6 (by kernel_rfl) (by kernel_rfl) (by kernel_rfl) ?hQ5u6 (Or.inl ⟨?hw5u6, ?hy5u6⟩) hHeld ?rest5u6
                      case hi5u6 => (simp only [List.getElem?_toArray, List.getElem?_cons_succ, List.getElem?_cons_zero]; exact rfl)
                      case hQ5u6 => exact fun _ _ _ h => h
                      case hw5u6 => rfl
                      case hy5u6 => (intro w hSw; (try dsimp only at hSw); go_simp <;> with_reducible rfl)
                      try simp only [Act.put, List.setIfInBounds_toArray, List.set_cons_zero, List.set_cons_succ]
                      refine wpAnyH_take (i := 6) (oi := ?oi6u7) (v := ?v6u7) ?hi6u7 (by kernel_rfl) (by kernel_rfl) (by kernel_rfl) ?hQ6u7 (Or.inl ⟨?hw6u7, ?hy6u7⟩) hHeld ?rest6u7
                      case hi6u7 => (simp only [List.getElem?_toArray, List.getElem?_cons_succ, List.getElem?_cons_zero]; exact rfl)
                      case hQ6u7 => exact fun _ _ _ h => h
                      case hw6u7 => rfl
                      case hy6u7 => (intro w hSw; (try dsimp only at hSw); go_simp <;> with_reducible rfl)
                      try simp only [Act.put, List.setIfInBounds_toArray, List.set_cons_zero, List.set_cons_succ]
                      refine held_two (i := 7) (j := 13) (oi := ?oi7u8) (oj := ?oi13u8) (by kernel_rfl) ?hi7u8 ?hi13u8 (fun K hK => ?rest7u8) (fun K hK => ?rest13u8)
                      case hi7u8 => (simp only [List.getElem?_toArray, List.getElem?_cons_succ, List.getElem?_cons_zero]; exact rfl)
                      case hi13u8 => (simp only [List.getElem?_toArray, List.getElem?_cons_succ, List.getElem?_cons_zero]; exact rfl)
                      · go_simp
                        go_at_call 19
                        refine (Hput.out _ HV.out).mono ?_
                        rintro e w4 ⟨A2, c2, D2, n2, d2, q2, x2, rfl, hC2, hb4, hor⟩
                        have H4 := Lib.hid (HV.out.trans (hb4.mono HV.out.size))
                        have Hgb : Hid (X.heap.size ≤ w4.heap.size) := Lib.hid H4.out.size
                        have HCy := Lib.hid (hC2.below (bas w4 (.cells #[.slice none 0 0, .slice none 0 0, .int .i64 0] 25)))
                        have HY := Lib.hid (H4.out.alloc H4.out.size (.cells #[.slice none 0 0, .slice none 0 0, .int .i64 0] 25))
                        have Hz := Lib.hid (show (w4.alloc (.cells #[.slice none 0 0, .slice none 0 0, .int .i64 0] 25)).heap[w4.heap.size]? = some (.cells #[.slice none 0 0, .slice none 0 0, .int .i64 0] 25 (0, 0)) from alloc_at rfl)
                        obtain ⟨gb, hgb⟩ : ∃ gb, gb = w4.heap.size := ⟨_, rfl⟩
                        have Hor := Lib.hid (show (fun (Y : World) (D : Option Addr) (n d : Nat) (q x : Int) => ((((putA L T a).1.length : Int) ≤ r ∧ x = 0 ∧ q = ((putA L T a).2.1 : Nat) ∧ IsI Y D n d (putA L T a).2.2 ∧ (n ≠ 0 → ∀ z, D = some z → z.block ≠ gb) ∧ (n ≠ 0 → ∀ z, D = some z → X.heap.size ≤ z.block)) ∨ (¬ ((putA L T a).1.length : Int) ≤ r ∧ x = 80))) (w4.alloc (.cells #[.slice none 0 0, .slice none 0 0, .int .i64 0] 25)) D2 n2 d2 q2 x2 from by
                          rcases hor with ⟨o1, o2, o3, o4, o5⟩ | ⟨o1, o2, _⟩
                          · exact .inl ⟨o1, o2, o3, o4.below (bas _ _), fun h0 z hz => by rw [hgb]; exact Nat.ne_of_lt (IsI.lt o4 h0 z hz), fun h0 z hz => Nat.le_trans HV.out.size (o5 h0 z hz)⟩
                          · exact .inr ⟨o1, o2⟩)
                        clear hC2 hb4 hor
                        try go_simp
                        refine hK _ _ (HS.out _ H4.out) ?_
                        clear hK K hHeld
                        have hHeld := HS.out _ H4.out
                        try simp only [Act.put, List.setIfInBounds_toArray, List.set_cons_zero, List.set_cons_succ]
                        refine wpAnyH_take (i := 8) (oi := ?oi8u9) (v := ?v8u9) ?hi8u9 (by kernel_rfl) (by kernel_rfl) (by kernel_rfl) ?hQ8u9 (Or.inl ⟨?hw8u9, ?hy8u9⟩) hHeld ?rest8u9
                        case hi8u9 => (simp only [List.getElem?_toArray, List.getElem?_cons_succ, List.getElem?_cons_zero]; exact rfl)
                        case hQ8u9 => exact fun _ _ _ h => h
                        case hw8u9 => rfl
                        case hy8u9 => (intro w hSw; (try dsimp only at hSw); go_simp <;> with_reducible rfl)
                        try simp only [Act.put, List.setIfInBounds_toArray, List.set_cons_zero, List.set_cons_succ]
                        refine wpAnyH_take (i := 9) (oi := ?oi9u10) (v := ?v9u10) ?hi9u10 (by kernel_rfl) (by kernel_rfl) (by kernel_rfl) ?hQ9u10 (Or.inl ⟨?hw9u10, ?hy9u10⟩) hHeld ?rest9u10
                        case hi9u10 => (simp only [List.getElem?_toArray, List.getElem?_cons_succ, List.getElem?_cons_zero]; exact rfl)
                        case hQ9u10 => exact fun _ _ _ h => h
                        case hw9u10 => rfl
                        case hy9u10 => (intro w hSw; (try dsimp only at hSw); go_simp <;> with_reducible rfl)
                        try simp only [Act.put, List.setIfInBounds_toArray, List.set_cons_zero, List.set_cons_succ]
                        refine wpAnyH_take (i := 10) (oi := ?oi10u11) (v := ?v10u11) ?hi10u11 (by kernel_rfl) (by kernel_rfl) (by kernel_rfl) ?hQ10u11 (Or.inl ⟨?hw10u11, ?hy10u11⟩) hHeld ?rest10u11
                        case hi10u11 => (simp only [List.getElem?_toArray, List.getElem?_cons_succ, List.getElem?_cons_zero]; exact rfl)
                        case hQ10u11 => exact fun _ _ _ h => h
                        case hw10u11 => rfl
                        case hy10u11 => (intro w hSw; (try dsimp only at hSw); go_simp <;> with_reducible rfl)
                        try simp only [Act.put, List.setIfInBounds_toArray, List.set_cons_zero, List.set_cons_succ]
                        refine wpAnyH_take (i := 11) (oi := ?oi11u12) (v := ?v11u12) ?hi11u12 (by kernel_rfl) (by kernel_rfl) (by kernel_rfl) ?hQ11u12 (Or.inl ⟨?hw11u12, ?hy11u12⟩) hHeld ?rest11u12
                        case hi11u12 => (simp only [List.getElem?_toArray, List.getElem?_cons_succ, List.getElem?_cons_zero]; exact rfl)
                        case hQ11u12 => exact fun _ _ _ h => h
                        case hw11u12 => rfl
                        case hy11u12 => (intro w hSw; (try dsimp only at hSw); go_simp <;> with_reducible rfl)
                        try simp only [Act.put, List.setIfInBounds_toArray, List.set_cons_zero, List.set_cons_succ]
                        refine wpAnyH_take (i := 12) (oi := ?oi12u13) (v := ?v12u13) ?hi12u13 (by kernel_rfl) (by kernel_rfl) (by kernel_rfl) ?hQ12u13 (Or.inl ⟨?hw12u13, ?hy12u13⟩) hHeld ?rest12u13
                        case hi12u13 => (simp only [List.getElem?_toArray, List.getElem?_cons_succ, List.getElem?_cons_zero]; exact rfl)
                        case hQ12u13 => exact fun _ _ _ h => h
                        case hw12u13 => rfl
                        case hy12u13 => (intro w hSw; (try dsimp only at hSw); go_simp <;> with_reducible rfl)
                        try simp only [Act.put, List.setIfInBounds_toArray, List.set_cons_zero, List.set_cons_succ]
                        refine held_one (i := 13) (o := ?oi13u14) (by kernel_rfl) ?hi13u14 (fun K hK => ?rest13u14)
                        case hi13u14 => (simp only [List.getElem?_toArray, List.getElem?_cons_succ, List.getElem?_cons_zero]; exact rfl)
                        go_simp
                        refine hK _ _ (HS.out _ HY.out) ?_
                        clear hK K hHeld
                        have hHeld := HS.out _ HY.out
                        try simp only [Act.put, List.setIfInBounds_toArray, List.set_cons_zero, List.set_cons_succ]
                        rw [← hgb] at Hgb Hz
                        try rw [← hgb]
                        clear hgb
                        generalize w4.alloc (.cells #[.slice none 0 0, .slice none 0 0, .int .i64 0] 25) = Y at *
                        obtain ⟨z0, z1, z2, zl⟩ := open3 Hz.out
                        have zf0 := frozen_of Hz.out 0
                        have zf1 := frozen_of Hz.out 1
                        have zf2 := frozen_of Hz.out 2
                        have hk : Kq gb Y (((Y.setCell ⟨gb, 0, none⟩ (.slice A2 (pRes L T a r).length c2)).setCell ⟨gb, 1, none⟩ (.slice Bg TR.length dg)).setCell ⟨gb, 2, none⟩ (.int .i64 r)) := ((Kq.set Y 0 _).trans (Kq.set _ 1 _)).trans (Kq.set _ 2 _)
                        have h1 := set_block (k := 0) Hz.out (.slice A2 (pRes L T a r).length c2)
                        have h2 := set_block (k := 1) h1 (.slice Bg TR.length dg)
                        have h3 := set_block (k := 2) h2 (.int .i64 r)
                        have HzF : Hid ((((Y.setCell ⟨gb, 0, none⟩ (.slice A2 (pRes L T a r).length c2)).setCell ⟨gb, 1, none⟩ (.slice Bg TR.length dg)).setCell ⟨gb, 2, none⟩ (.int .i64 r)).heap[gb]? = some (.cells #[.slice A2 (pRes L T a r).length c2, .slice Bg TR.length dg, .int .i64 r] 25 (0, 0))) := Lib.hid (by simpa using h3)
                        have HCF := Lib.hid (HCy.out.kq8 hk ⟨_, _, _, _, _, _, Hz.out⟩)
                        have HNF := Lib.hid ((HNg.out.below HY.out).kq9 hk (fun h0 z hz => Nat.ne_of_lt (Nat.lt_of_lt_of_le (IsI.lt HNg.out h0 z hz) Hgb.out)))
                        have HorF := Lib.hid (show (((putA L T a).1.length : Int) ≤ r ∧ x2 = 0 ∧ q2 = ((putA L T a).2.1 : Nat) ∧ IsI (((Y.setCell ⟨gb, 0, none⟩ (.slice A2 (pRes L T a r).length c2)).setCell ⟨gb, 1, none⟩ (.slice Bg TR.length dg)).setCell ⟨gb, 2, none⟩ (.int .i64 r)) D2 n2 d2 (putA L T a).2.2 ∧ (n2 ≠ 0 → ∀ z, D2 = some z → X.heap.size ≤ z.block)) ∨ (¬ ((putA L T a).1.length : Int) ≤ r ∧ x2 = 80) from by
                          rcases Hor.out with ⟨o1, o2, o3, o4, o5, o6⟩ | ⟨o1, o2⟩
                          · exact .inl ⟨o1, o2, o3, o4.kq9 hk o5, o6⟩
                          · exact .inr ⟨o1, o2⟩)
                        have HF := Lib.hid (HY.out.trans (hk.bel.mono Hgb.out))

                        refine held_one (i := 14) (o := ?oi14u15) (by kernel_rfl) ?hi14u15 (fun K hK => ?rest14u15)
                        case hi14u15 => (simp only [List.getElem?_toArray, List.getElem?_cons_succ, List.getElem?_cons_zero]; exact rfl)
                        go_simp
                        refine hK _ _ (HS.out _ HF.out) ?_
                        clear hK K hHeld
                        have hHeld := HS.out _ HF.out
                        try simp only [Act.put, List.setIfInBounds_toArray, List.set_cons_zero, List.set_cons_succ]
                        refine wpAnyH_take (i := 15) (oi := ?oi15u16) (v := ?v15u16) ?hi15u16 (by kernel_rfl) (by kernel_rfl) (by kernel_rfl) ?hQ15u16 (Or.inl ⟨?hw15u16, ?hy15u16⟩) hHeld ?rest15u16
                        case hi15u16 => (simp only [List.getElem?_toArray, List.getElem?_cons_succ, List.getElem?_cons_zero]; exact rfl)
                        case hQ15u16 => exact fun _ _ _ h => h
                        case hw15u16 => rfl
                        case hy15u16 => (intro w hSw; (try dsimp only at hSw); go_simp <;> with_reducible rfl)
                        try simp only [Act.put, List.setIfInBounds_toArray, List.set_cons_zero, List.set_cons_succ]
                        refine wpAnyH_take (i := 16) (oi := ?oi16u17) (v := ?v16u17) ?hi16u17 (by kernel_rfl) (by kernel_rfl) (by kernel_rfl) ?hQ16u17 (Or.inl ⟨?hw16u17, ?hy16u17⟩) hHeld ?rest16u17
                        case hi16u17 => (simp only [List.getElem?_toArray, List.getElem?_cons_succ, List.getElem?_cons_zero]; exact rfl)
                        case hQ16u17 => exact fun _ _ _ h => h
                        case hw16u17 => rfl
                        case hy16u17 => (intro w hSw; (try dsimp only at hSw); go_simp <;> with_reducible rfl)
                        try simp only [Act.put, List.setIfInBounds_toArray, List.set_cons_zero, List.set_cons_succ]
                        refine wpAnyH_take (i := 17) (oi := ?oi17u18) (v := ?v17u18) ?hi17u18 (by kernel_rfl) (by kernel_rfl) (by kernel_rfl) ?hQ17u18 (Or.inl ⟨?hw17u18, ?hy17u18⟩) hHeld ?rest17u18
                        case hi17u18 => (simp only [List.getElem?_toArray, List.getElem?_cons_succ, List.getElem?_cons_zero]; exact rfl)
                        case hQ17u18 => exact fun _ _ _ h => h
                        case hw17u18 => rfl
                        case hy17u18 => (intro w hSw; (try dsimp only at hSw); go_simp <;> with_reducible rfl)
                        try simp only [Act.put, List.setIfInBounds_toArray, List.set_cons_zero, List.set_cons_succ]
                        refine wpAnyH_done (by kernel_rfl) ?_ _
                        clear hk h1 h2 h3 z0 z1 z2 zl zf0 zf1 zf2 hHeld Hor
                        generalize (((Y.setCell ⟨gb, 0, none⟩ (.slice A2 (pRes L T a r).length c2)).setCell ⟨gb, 1, none⟩ (.slice Bg TR.length dg)).setCell ⟨gb, 2, none⟩ (.int .i64 r)) = F at *
                        go_wp2_with fail
                        go_meet
                        exact ⟨gb, D2, n2, d2, q2, x2, rfl, rfl, rfl, rfl, ⟨A2, c2, Bg, dg, HzF.out, HCF.out, HNF.out⟩, Hgb.out, HF.out, HorF.out⟩
                      · go_simp
                        have HY0 := Lib.hid (HV.out.alloc HV.out.size (.cells #[.slice none 0 0, .slice none 0 0, .int .i64 0] 25))
                        refine hK _ _ (HS.out _ HY0.out) ?_
                        clear hK K hHeld
                        have hHeld := HS.out _ HY0.out
                        try simp only [Act.put, List.setIfInBounds_toArray, List.set_cons_zero, List.set_cons_succ]
                        have Hz0 := Lib.hid (show (V.alloc (.cells #[.slice none 0 0, .slice none 0 0, .int .i64 0] 25)).heap[V.heap.size]? = some (.cells #[.slice none 0 0, .slice none 0 0, .int .i64 0] 25 (0, 0)) from alloc_at rfl)
                        have Hgb : Hid (X.heap.size ≤ V.heap.size) := Lib.hid HV.out.size
                        have Hgl := Lib.hid (block_lt Hz0.out)
                        generalize V.alloc (.cells #[.slice none 0 0, .slice none 0 0, .int .i64 0] 25) = V2 at *
                        generalize V.heap.size = gb at *
                        refine held_one (i := 7) (o := ?oi7u19) (by kernel_rfl) ?hi7u19 (fun K hK => ?rest7u19)
                        case hi7u19 => (simp only [List.getElem?_toArray, List.getElem?_cons_succ, List.getElem?_cons_zero]; exact rfl)
                        go_simp
                        go_at_call 19
                        refine (Hput.out _ HY0.out).mono ?_
                        rintro e w4 ⟨A2, c2, D2, n2, d2, q2, x2, rfl, hC2, hb4, hor⟩
                        have HY := Lib.hid (HY0.out.trans (hb4.mono HY0.out.size))
                        have Hz := Lib.hid ((hb4.block gb Hgl.out).trans Hz0.out)
                        have HCy := Lib.hid hC2
                        have Hor := Lib.hid (show (fun (Y : World) (D : Option Addr) (n d : Nat) (q x : Int) => ((((putA L T a).1.length : Int) ≤ r ∧ x = 0 ∧ q = ((putA L T a).2.1 : Nat) ∧ IsI Y D n d (putA L T a).2.2 ∧ (n ≠ 0 → ∀ z, D = some z → z.block ≠ gb) ∧ (n ≠ 0 → ∀ z, D = some z → X.heap.size ≤ z.block)) ∨ (¬ ((putA L T a).1.length : Int) ≤ r ∧ x = 80))) w4 D2 n2 d2 q2 x2 from by
                          rcases hor with ⟨o1, o2, o3, o4, o5⟩ | ⟨o1, o2, _⟩
                          · exact .inl ⟨o1, o2, o3, o4, fun h0 z hz => Nat.ne_of_gt (Nat.lt_of_lt_of_le Hgl.out (o5 h0 z hz)), fun h0 z hz => Nat.le_trans HY0.out.size (o5 h0 z hz)⟩
                          · exact .inr ⟨o1, o2⟩)
                        clear hC2 hb4 hor
                        try go_simp
                        refine hK _ _ (HS.out _ HY.out) ?_
                        clear hK K hHeld
                        have hHeld := HS.out _ HY.out
                        try simp only [Act.put, List.setIfInBounds_toArray, List.set_cons_zero, List.set_cons_succ]
                        refine wpAnyH_take (i := 8) (oi := ?oi8u20) (v := ?v8u20) ?hi8u20 (by kernel_rfl) (by kernel_rfl) (by kernel_rfl) ?hQ8u20 (Or.inl ⟨?hw8u20, ?hy8u20⟩) hHeld ?rest8u20
                        case hi8u20 => (simp only [List.getElem?_toArray, List.getElem?_cons_succ, List.getElem?_cons_zero]; exact rfl)
                        case hQ8u20 => exact fun _ _ _ h => h
                        case hw8u20 => rfl
                        case hy8u20 => (intro w hSw; (try dsimp only at hSw); go_simp <;> with_reducible rfl)
                        try simp only [Act.put, List.setIfInBounds_toArray, List.set_cons_zero, List.set_cons_succ]
                        refine wpAnyH_take (i := 9) (oi := ?oi9u21) (v := ?v9u21) ?hi9u21 (by kernel_rfl) (by kernel_rfl) (by kernel_rfl) ?hQ9u21 (Or.inl ⟨?hw9u21, ?hy9u21⟩) hHeld ?rest9u21
                        case hi9u21 => (simp only [List.getElem?_toArray, List.getElem?_cons_succ, List.getElem?_cons_zero]; exact rfl)
                        case hQ9u21 => exact fun _ _ _ h => h
                        case hw9u21 => rfl
                        case hy9u21 => (intro w hSw; (try dsimp only at hSw); go_simp <;> with_reducible rfl)
                        try simp only [Act.put, List.setIfInBounds_toArray, List.set_cons_zero, List.set_cons_succ]
                        refine wpAnyH_take (i := 10) (oi := ?oi10u22) (v := ?v10u22) ?hi10u22 (by kernel_rfl) (by kernel_rfl) (by kernel_rfl) ?hQ10u22 (Or.inl ⟨?hw10u22, ?hy10u22⟩) hHeld ?rest10u22
                        case hi10u22 => (simp only [List.getElem?_toArray, List.getElem?_cons_succ, List.getElem?_cons_zero]; exact rfl)
                        case hQ10u22 => exact fun _ _ _ h => h
                        case hw10u22 => rfl
                        case hy10u22 => (intro w hSw; (try dsimp only at hSw); go_simp <;> with_reducible rfl)
                        try simp only [Act.put, List.setIfInBounds_toArray, List.set_cons_zero, List.set_cons_succ]
                        refine wpAnyH_take (i := 11) (oi := ?oi11u23) (v := ?v11u23) ?hi11u23 (by kernel_rfl) (by kernel_rfl) (by kernel_rfl) ?hQ11u23 (Or.inl ⟨?hw11u23, ?hy11u23⟩) hHeld ?rest11u23
                        case hi11u23 => (simp only [List.getElem?_toArray, List.getElem?_cons_succ, List.getElem?_cons_zero]; exact rfl)
                        case hQ11u23 => exact fun _ _ _ h => h
                        case hw11u23 => rfl
                        case hy11u23 => (intro w hSw; (try dsimp only at hSw); go_simp <;> with_reducible rfl)
                        try simp only [Act.put, List.setIfInBounds_toArray, List.set_cons_zero, List.set_cons_succ]
                        refine wpAnyH_take (i := 12) (oi := ?oi12u24) (v := ?v12u24) ?hi12u24 (by kernel_rfl) (by kernel_rfl) (by kernel_rfl) ?hQ12u24 (Or.inl ⟨?hw12u24, ?hy12u24⟩) hHeld ?rest12u24
                        case hi12u24 => (simp only [List.getElem?_toArray, List.getElem?_cons_succ, List.getElem?_cons_zero]; exact rfl)
                        case hQ12u24 => exact fun _ _ _ h => h
                        case hw12u24 => rfl
                        case hy12u24 => (intro w hSw; (try dsimp only at hSw); go_simp <;> with_reducible rfl)
                        try simp only [Act.put, List.setIfInBounds_toArray, List.set_cons_zero, List.set_cons_succ]
                        generalize w4 = Y at *
                        obtain ⟨z0, z1, z2, zl⟩ := open3 Hz.out
                        have zf0 := frozen_of Hz.out 0
                        have zf1 := frozen_of Hz.out 1
                        have zf2 := frozen_of Hz.out 2
                        have hk : Kq gb Y (((Y.setCell ⟨gb, 0, none⟩ (.slice A2 (pRes L T a r).length c2)).setCell ⟨gb, 1, none⟩ (.slice Bg TR.length dg)).setCell ⟨gb, 2, none⟩ (.int .i64 r)) := ((Kq.set Y 0 _).trans (Kq.set _ 1 _)).trans (Kq.set _ 2 _)
                        have h1 := set_block (k := 0) Hz.out (.slice A2 (pRes L T a r).length c2)
                        have h2 := set_block (k := 1) h1 (.slice Bg TR.length dg)
                        have h3 := set_block (k := 2) h2 (.int .i64 r)
                        have HzF : Hid ((((Y.setCell ⟨gb, 0, none⟩ (.slice A2 (pRes L T a r).length c2)).setCell ⟨gb, 1, none⟩ (.slice Bg TR.length dg)).setCell ⟨gb, 2, none⟩ (.int .i64 r)).heap[gb]? = some (.cells #[.slice A2 (pRes L T a r).length c2, .slice Bg TR.length dg, .int .i64 r] 25 (0, 0))) := Lib.hid (by simpa using h3)
                        have HCF := Lib.hid (HCy.out.kq8 hk ⟨_, _, _, _, _, _, Hz.out⟩)
                        have HNF := Lib.hid ((HNg.out.below HY.out).kq9 hk (fun h0 z hz => Nat.ne_of_lt (Nat.lt_of_lt_of_le (IsI.lt HNg.out h0 z hz) Hgb.out)))
                        have HorF := Lib.hid (show (((putA L T a).1.length : Int) ≤ r ∧ x2 = 0 ∧ q2 = ((putA L T a).2.1 : Nat) ∧ IsI (((Y.setCell ⟨gb, 0, none⟩ (.slice A2 (pRes L T a r).length c2)).setCell ⟨gb, 1, none⟩ (.slice Bg TR.length dg)).setCell ⟨gb, 2, none⟩ (.int .i64 r)) D2 n2 d2 (putA L T a).2.2 ∧ (n2 ≠ 0 → ∀ z, D2 = some z → X.heap.size ≤ z.block)) ∨ (¬ ((putA L T a).1.length : Int) ≤ r ∧ x2 = 80) from by
                          rcases Hor.out with ⟨o1, o2, o3, o4, o5, o6⟩ | ⟨o1, o2⟩
                          · exact .inl ⟨o1, o2, o3, o4.kq9 hk o5, o6⟩
                          · exact .inr ⟨o1, o2⟩)
                        have HF := Lib.hid (HY.out.trans (hk.bel.mono Hgb.out))

                        refine held_one (i := 14) (o := ?oi14u25) (by kernel_rfl) ?hi14u25 (fun K hK => ?rest14u25)
                        case hi14u25 => (simp only [List.getElem?_toArray, List.getElem?_cons_succ, List.getElem?_cons_zero]; exact rfl)
                        go_simp
                        refine hK _ _ (HS.out _ HF.out) ?_
                        clear hK K hHeld
                        have hHeld := HS.out _ HF.out
                        try simp only [Act.put, List.setIfInBounds_toArray, List.set_cons_zero, List.set_cons_succ]
                        refine wpAnyH_take (i := 15) (oi := ?oi15u26) (v := ?v15u26) ?hi15u26 (by kernel_rfl) (by kernel_rfl) (by kernel_rfl) ?hQ15u26 (Or.inl ⟨?hw15u26, ?hy15u26⟩) hHeld ?rest15u26
                        case hi15u26 => (simp only [List.getElem?_toArray, List.getElem?_cons_succ, List.getElem?_cons_zero]; exact rfl)
                        case hQ15u26 => exact fun _ _ _ h => h
                        case hw15u26 => rfl
                        case hy15u26 => (intro w hSw; (try dsimp only at hSw); go_simp <;> with_reducible rfl)
                        try simp only [Act.put, List.setIfInBounds_toArray, List.set_cons_zero, List.set_cons_succ]
                        refine wpAnyH_take (i := 16) (oi := ?oi16u27) (v := ?v16u27) ?hi16u27 (by kernel_rfl) (by kernel_rfl) (by kernel_rfl) ?hQ16u27 (Or.inl ⟨?hw16u27, ?hy16u27⟩) hHeld ?rest16u27
                        case hi16u27 => (simp only [List.getElem?_toArray, List.getElem?_cons_succ, List.getElem?_cons_zero]; exact rfl)
                        case hQ16u27 => exact fun _ _ _ h => h
                        case hw16u27 => rfl
                        case hy16u27 => (intro w hSw; (try dsimp only at hSw); go_simp <;> with_reducible rfl)
                        try simp only [Act.put, List.setIfInBounds_toArray, List.set_cons_zero, List.set_cons_succ]
                        refine wpAnyH_take (i := 17) (oi := ?oi17u28) (v := ?v17u28) ?hi17u28 (by kernel_rfl) (by kernel_rfl) (by kernel_rfl) ?hQ17u28 (Or.inl ⟨?hw17u28, ?hy17u28⟩) hHeld ?rest17u28
                        case hi17u28 => (simp only [List.getElem?_toArray, List.getElem?_cons_succ, List.getElem?_cons_zero]; exact rfl)
                        case hQ17u28 => exact fun _ _ _ h => h
                        case hw17u28 => rfl
                        case hy17u28 => (intro w hSw; (try dsimp only at hSw); go_simp <;> with_reducible rfl)
                        try simp only [Act.put, List.setIfInBounds_toArray, List.set_cons_zero, List.set_cons_succ]
                        refine wpAnyH_done (by kernel_rfl) ?_ _
                        clear hk h1 h2 h3 z0 z1 z2 zl zf0 zf1 zf2 hHeld Hor
                        generalize (((Y.setCell ⟨gb, 0, none⟩ (.slice A2 (pRes L T a r).length c2)).setCell ⟨gb, 1, none⟩ (.slice Bg TR.length dg)).setCell ⟨gb, 2, none⟩ (.int .i64 r)) = F at *
                        go_wp2_with fail
                        go_meet
                        exact ⟨gb, D2, n2, d2, q2, x2, rfl, rfl, rfl, rfl, ⟨A2, c2, Bg, dg, HzF.out, HCF.out, HNF.out⟩, Hgb.out, HF.out, HorF.out⟩
                  case rest =>
                    obtain ⟨gx, D1, p1, e1, q1, x1, rfl, rfl, rfl, rfl, hBx, hgx, hbn, hor⟩ := hcut
                    have hI2 := HI1.out.below hbn
                    obtain ⟨Ax, cx, Bx, dx, ⟨hCx, hNx⟩, hYx⟩ := hBx.open
                    obtain ⟨y0, y1, y2, yl⟩ := hYx _ (Below.refl _ _)
                    obtain ⟨v0, v1, u0, u1, u2, ul, f0, f1, f2⟩ := hI2.heap.rb.open
                    have hle : L.length ≤ (pRes L T a r).length := Hs3.out.le
                    obtain ⟨hst, hkq⟩ := hI2.store n0 nw Hok.out hCx hNx Ok3.out hle Hs3.out
                    rcases hor with ⟨o1, o2, o3, o4, o5⟩ | ⟨o1, o2⟩
                    · subst o2
                      obtain ⟨w1', w2', w3'⟩ := Hpl.out o1
                      have HI4 := Lib.hid (show LInv w g0 gh l tr r _ (pRes L T a r) TR (ds ++ ds3) (putA L T a).2.2 D1 p1 e1 from ⟨o4.kq9 hkq (fun h0 z hz => Nat.ne_of_gt (Nat.lt_of_lt_of_le hgX (o5 h0 z hz))), fun h0 z hz => Nat.ne_of_gt (Nat.lt_of_lt_of_le hgX (o5 h0 z hz)), w2', hst.ok, w1', hst.hst, hst.heap, hst.old, hst.low⟩)
                      have hq0 : decide (q1 < 0) = false := by rw [o3]; simp
                      have hq1 : decide (((pRes L T a r).length : Int) ≤ q1) = false := by rw [o3]; simp; omega
                      have hq2 : ¬ q1 < 0 := by rw [o3]; omega
                      have hq3 : ¬ ((pRes L T a r).length : Int) ≤ q1 := by rw [o3]; omega
                      clear hI2 hBx hCx hNx hYx hst hkq o1 o3 o4 o5 w1' w2' w3' hle
                      generalize pRes L T a r = L3 at *
                      generalize putA L T a = pt at *
                      go_wp2
                      go_meet
                      exact ⟨L3, ds ++ ds3, pt.2.2, D1, p1, e1, rfl, HI4.out⟩
                    · subst o2
                      have HI4 := Lib.hid hst
                      clear hI2 hBx hCx hNx hYx hst hkq o1 hle
                      generalize pRes L T a r = L3 at *
                      generalize putA L T a = pt at *
                      go_wp2
                      go_meet
                      exact ⟨L3, ds ++ ds3, a, D, pn, e, rfl, HI4.out⟩
              case rest =>
                clear HI1
                obtain ⟨L, ds, a, D, pn, e, rfl, hI1⟩ := hcut
                have HI1 := Lib.hid hI1
                clear hI1 Hcd
                generalize wc = X at *
                go_upto_region 15 with fail
                obtain ⟨ok3, len3, ds3, hs3⟩ := uni_ok HI1.out.ok o.a o.b
                have Ok3 := Lib.hid ok3
                have Hs3 := Lib.hid hs3
                have hgX := HI1.out.heap.lt
                have Hcall := Lib.hid (fun (wx : World) (A B : Option Addr) (c d : Nat) (hC : IsC wx A L.length c L) (hN : IsI wx B TR.length d TR) => uni8 (r := r) hC hN HI1.out.ok o.a o.b)
                clear ok3 hs3
                have Hisz := Lib.hid (show (uniZ L TR o.a o.b).isSome = false → (uRes L TR o.a o.b).2 = TR from fun h => by
                  unfold uRes
                  cases hz : uniZ L TR o.a o.b with
                  | none => rfl
                  | some u => rw [hz] at h; cases h)
                generalize (uniZ L TR o.a o.b).isSome = isz at *
                obtain ⟨LU, hLU⟩ : ∃ LU, (uRes L TR o.a o.b).1 = LU := ⟨_, rfl⟩
                obtain ⟨TU, hTU⟩ : ∃ TU, (uRes L TR o.a o.b).2 = TU := ⟨_, rfl⟩
                rw [hLU, hTU] at Ok3 Hs3
                rw [hTU] at Hisz
                rw [hLU] at len3
                simp only [hLU, hTU] at Hcall
                have Len3 := Lib.hid len3
                clear hLU hTU len3
                go_cut [13, 14] from 83 to 97 (fun v14 v15 wx => ∃ gy : Nat, v14 = .pointer (some ⟨gy, 0, none⟩) ∧ v15 = .bool isz ∧ HB wx gy LU TU r ∧ X.heap.size ≤ gy ∧ Below X.heap.size X wx)
                case first =>
                  obtain ⟨Ag, cg, Bg, dg, ⟨hCg, hNg⟩, hYg⟩ := HI1.out.heap.open
                  have hS : ∀ w', Below X.heap.size X w' → w'.cell? ⟨gh, 0, none⟩ = some (.slice Ag L.length cg) ∧ w'.cell? ⟨gh, 1, none⟩ = some (.slice Bg TR.length dg) ∧ w'.cell? ⟨gh, 2, none⟩ = some (.int .i64 r) ∧ w'.cell? ⟨bo, oo + i * 3 + 1, none⟩ = some (.int .i64 o.a) ∧ w'.cell? ⟨bo, oo + i * 3 + 2, none⟩ = some (.int .i64 o.b) := fun w' hb => by
                    obtain ⟨p0, p1, p2, _⟩ := hYg w' hb
                    exact ⟨p0, p1, p2, ((HI1.out.low.trans (hb.mono HI1.out.low.size)).cell (p := ⟨bo, oo + i * 3 + 1, none⟩) Hbo.out).trans E1.out, ((HI1.out.low.trans (hb.mono HI1.out.low.size)).cell (p := ⟨bo, oo + i * 3 + 2, none⟩) Hbo.out).trans E2.out⟩
                  have hz9 : (i : Int) < (nq : Int) := by omega
                  refine wp_region_held_drew (S := fun w' => w'.cell? ⟨gh, 0, none⟩ = some (.slice Ag L.length cg) ∧ w'.cell? ⟨gh, 1, none⟩ = some (.slice Bg TR.length dg) ∧ w'.cell? ⟨gh, 2, none⟩ = some (.int .i64 r) ∧ w'.cell? ⟨bo, oo + i * 3 + 1, none⟩ = some (.int .i64 o.a) ∧ w'.cell? ⟨bo, oo + i * 3 + 2, none⟩ = some (.int .i64 o.b)) (by kernel_rfl) ?gs13 ?gr13
                  case gs13 => exact hS _ (Below.refl _ _).drew
                  case gr13 =>
                    intro hHeld
                    have HS := Lib.hid hS
                    have HCg := Lib.hid hCg
                    have HNg := Lib.hid hNg
                    have HV : Hid (Below X.heap.size X X.drew) := Lib.hid ((Below.refl _ _).drew)
                    clear hS hYg hCg hNg hgX
                    generalize X.drew = V at *

                    refine wpAnyH_take (i := 0) (oi := ?oi0u29) (v := ?v0u29) ?hi0u29 (by kernel_rfl) (by kernel_rfl) (by kernel_rfl) ?hQ0u29 (Or.inl ⟨?hw0u29, ?hy0u29⟩) hHeld ?rest0u29
                    case hi0u29 => (simp only [List.getElem?_toArray, List.getElem?_cons_succ, List.getElem?_cons_zero]; exact rfl)
                    case hQ0u29 => exact fun _ _ _ h => h
                    case hw0u29 => rfl
                    case hy0u29 => (intro w hSw; (try dsimp only at hSw); go_simp <;> with_reducible rfl)
                    try simp only [Act.put, List.setIfInBounds_toArray, List.set_cons_zero, List.set_cons_succ]
                    refine wpAnyH_take (i := 1) (oi := ?oi1u30) (v := ?v1u30) ?hi1u30 (by kernel_rfl) (by kernel_rfl) (by kernel_rfl) ?hQ1u30 (Or.inl ⟨?hw1u30, ?hy1u30⟩) hHeld ?rest1u30
                    case hi1u30 => (simp only [List.getElem?_toArray, List.getElem?_cons_succ, List.getElem?_cons_zero]; exact rfl)
                    case hQ1u30 => exact fun _ _ _ h => h
                    case hw1u30 => rfl
                    case hy1u30 => (intro w hSw; (try dsimp only at hSw); go_simp <;> with_reducible rfl)
                    try simp only [Act.put, List.setIfInBounds_toArray, List.set_cons_zero, List.set_cons_succ]
                    refine wpAnyH_take (i := 2) (oi := ?oi2u31) (v := ?v2u31) ?hi2u31 (by kernel_rfl) (by kernel_rfl) (by kernel_rfl) ?hQ2u31 (Or.inl ⟨?hw2u31, ?hy2u31⟩) hHeld ?rest2u31
                    case hi2u31 => (simp only [List.getElem?_toArray, List.getElem?_cons_succ, List.getElem?_cons_zero]; exact rfl)
                    case hQ2u31 => exact fun _ _ _ h => h
                    case hw2u31 => rfl
                    case hy2u31 => (intro w hSw; (try dsimp only at hSw); go_simp <;> with_reducible rfl)
                    try simp only [Act.put, List.setIfInBounds_toArray, List.set_cons_zero, List.set_cons_succ]
                    refine wpAnyH_take (i := 3) (oi := ?oi3u32) (v := ?v3u32) ?hi3u32 (by kernel_rfl) (by kernel_rfl) (by kernel_rfl) ?hQ3u32 (Or.inl ⟨?hw3u32, ?hy3u32⟩) hHeld ?rest3u32
                    case hi3u32 => (simp only [List.getElem?_toArray, List.getElem?_cons_succ, List.getElem?_cons_zero]; exact rfl)
                    case hQ3u32 => exact fun _ _ _ h => h
                    case hw3u32 => rfl
                    case hy3u32 => (intro w hSw; (try dsimp only at hSw); go_simp <;> with_reducible rfl)
                    try simp only [Act.put, List.setIfInBounds_toArray, List.set_cons_zero, List.set_cons_succ]
                    refine wpAnyH_take (i := 4) (oi := ?oi4u33) (v := ?v4u33) ?hi4u33 (by kernel_rfl) (by kernel_rfl) (by kernel_rfl) ?hQ4u33 (Or.inl ⟨?hw4u33, ?hy4u33⟩) hHeld ?rest4u33
                    case hi4u33 => (simp only [List.getElem?_toArray, List.getElem?_cons_succ, List.getElem?_cons_zero]; exact rfl)
                    case hQ4u33 => exact fun _ _ _ h => h
                    case hw4u33 => rfl
                    case hy4u33 => (intro w hSw; (try dsimp only at hSw); go_simp <;> with_reducible rfl)
                    try simp only [Act.put, List.setIfInBounds_toArray, List.set_cons_zero, List.set_cons_succ]
                    refine wpAnyH_take (i := 5) (oi := ?oi5u34) (v := ?v5u34) ?hi5u34 (by kernel_rfl) (by kernel_rfl) (by kernel_rfl) ?hQ5u34 (Or.inl ⟨?hw5u34, ?hy5u34⟩) hHeld ?rest5u34
                    case hi5u34 => (simp only [List.getElem?_toArray, List.getElem?_cons_succ, List.getElem?_cons_zero]; exact rfl)
                    case hQ5u34 => exact fun _ _ _ h => h
                    case hw5u34 => rfl
                    case hy5u34 => (intro w hSw; (try dsimp only at hSw); go_simp <;> with_reducible rfl)
                    try simp only [Act.put, List.setIfInBounds_toArray, List.set_cons_zero, List.set_cons_succ]
                    refine wpAnyH_take (i := 6) (oi := ?oi6u35) (v := ?v6u35) ?hi6u35 (by kernel_rfl) (by kernel_rfl) (by kernel_rfl) ?hQ6u35 (Or.inl ⟨?hw6u35, ?hy6u35⟩) hHeld ?rest6u35
                    case hi6u35 => (simp only [List.getElem?_toArray, List.getElem?_cons_succ, List.getElem?_cons_zero]; exact rfl)
                    case hQ6u35 => exact fun _ _ _ h => h
                    case hw6u35 => rfl
                    case hy6u35 => (intro w hSw; (try dsimp only at hSw); go_simp <;> with_reducible rfl)
                    try simp only [Act.put, List.setIfInBounds_toArray, List.set_cons_zero, List.set_cons_succ]
                    refine wpAnyH_take (i := 7) (oi := ?oi7u36) (v := ?v7u36) ?hi7u36 (by kernel_rfl) (by kernel_rfl) (by kernel_rfl) ?hQ7u36 (Or.inl ⟨?hw7u36, ?hy7u36⟩) hHeld ?rest7u36
                    case hi7u36 => (simp only [List.getElem?_toArray, List.getElem?_cons_succ, List.getElem?_cons_zero]; exact rfl)
                    case hQ7u36 => exact fun _ _ _ h => h
                    case hw7u36 => rfl
                    case hy7u36 => (intro w hSw; (try dsimp only at hSw); go_simp <;> with_reducible rfl)
                    try simp only [Act.put, List.setIfInBounds_toArray, List.set_cons_zero, List.set_cons_succ]
                    refine wpAnyH_take (i := 8) (oi := ?oi8u37) (v := ?v8u37) ?hi8u37 (by kernel_rfl) (by kernel_rfl) (by kernel_rfl) ?hQ8u37 (Or.inl ⟨?hw8u37, ?hy8u37⟩) hHeld ?rest8u37
                    case hi8u37 => (simp only [List.getElem?_toArray, List.getElem?_cons_succ, List.getElem?_cons_zero]; exact rfl)
                    case hQ8u37 => exact fun _ _ _ h => h
                    case hw8u37 => rfl
                    case hy8u37 => (intro w hSw; (try dsimp only at hSw); go_simp <;> with_reducible rfl)
                    try simp only [Act.put, List.setIfInBounds_toArray, List.set_cons_zero, List.set_cons_succ]
                    refine wpAnyH_take (i := 9) (oi := ?oi9u38) (v := ?v9u38) ?hi9u38 (by kernel_rfl) (by kernel_rfl) (by kernel_rfl) ?hQ9u38 (Or.inl ⟨?hw9u38, ?hy9u38⟩) hHeld ?rest9u38
                    case hi9u38 => (simp only [List.getElem?_toArray, List.getElem?_cons_succ, List.getElem?_cons_zero]; exact rfl)
                    case hQ9u38 => exact fun _ _ _ h => h
                    case hw9u38 => rfl
                    case hy9u38 => (intro w hSw; (try dsimp only at hSw); go_simp <;> with_reducible rfl)
                    try simp only [Act.put, List.setIfInBounds_toArray, List.set_cons_zero, List.set_cons_succ]
                    refine wpAnyH_take (i := 10) (oi := ?oi10u39) (v := ?v10u39) ?hi10u39 (by kernel_rfl) (by kernel_rfl) (by kernel_rfl) ?hQ10u39 (Or.inl ⟨?hw10u39, ?hy10u39⟩) hHeld ?rest10u39
                    case hi10u39 => (simp only [List.getElem?_toArray, List.getElem?_cons_succ, List.getElem?_cons_zero]; exact rfl)
                    case hQ10u39 => exact fun _ _ _ h => h
                    case hw10u39 => rfl
                    case hy10u39 => (intro w hSw; (try dsimp only at hSw); go_simp <;> with_reducible rfl)
                    try simp only [Act.put, List.setIfInBounds_toArray, List.set_cons_zero, List.set_cons_succ]
                    refine held_two (i := 11) (j := 15) (oi := ?oi11u40) (oj := ?oi15u40) (by kernel_rfl) ?hi11u40 ?hi15u40 (fun K hK => ?rest11u40) (fun K hK => ?rest15u40)
                    case hi11u40 => (simp only [List.getElem?_toArray, List.getElem?_cons_succ, List.getElem?_cons_zero]; exact rfl)
                    case hi15u40 => (simp only [List.getElem?_toArray, List.getElem?_cons_succ, List.getElem?_cons_zero]; exact rfl)
                    · go_simp
                      go_at_call 23
                      refine (Hcall.out _ _ _ _ _ (HCg.out.below HV.out) (HNg.out.below HV.out)).mono ?_
                      rintro e w4 ⟨A2, c2, B2, d2, rfl, hC2, hN2, hb4, hor⟩
                      have H4 := Lib.hid (HV.out.trans (hb4.mono HV.out.size))
                      have Hgb : Hid (X.heap.size ≤ w4.heap.size) := Lib.hid H4.out.size
                      have HCy := Lib.hid (hC2.below (bas w4 (.cells #[.slice none 0 0, .slice none 0 0, .int .i64 0] 25)))
                      have HNy := Lib.hid (hN2.below (bas w4 (.cells #[.slice none 0 0, .slice none 0 0, .int .i64 0] 25)))
                      have HY := Lib.hid (H4.out.alloc H4.out.size (.cells #[.slice none 0 0, .slice none 0 0, .int .i64 0] 25))
                      have Hz := Lib.hid (show (w4.alloc (.cells #[.slice none 0 0, .slice none 0 0, .int .i64 0] 25)).heap[w4.heap.size]? = some (.cells #[.slice none 0 0, .slice none 0 0, .int .i64 0] 25 (0, 0)) from alloc_at rfl)
                      have Sep := Lib.hid (fun h0 z hz => Nat.ne_of_lt (IsI.lt hN2 h0 z hz))
                      clear hC2 hN2 hb4 hor
                      try go_simp
                      refine hK _ _ (HS.out _ H4.out) ?_
                      clear hK K hHeld
                      have hHeld := HS.out _ H4.out
                      try simp only [Act.put, List.setIfInBounds_toArray, List.set_cons_zero, List.set_cons_succ]
                      refine wpAnyH_take (i := 12) (oi := ?oi12u41) (v := ?v12u41) ?hi12u41 (by kernel_rfl) (by kernel_rfl) (by kernel_rfl) ?hQ12u41 (Or.inl ⟨?hw12u41, ?hy12u41⟩) hHeld ?rest12u41
                      case hi12u41 => (simp only [List.getElem?_toArray, List.getElem?_cons_succ, List.getElem?_cons_zero]; exact rfl)
                      case hQ12u41 => exact fun _ _ _ h => h
                      case hw12u41 => rfl
                      case hy12u41 => (intro w hSw; (try dsimp only at hSw); go_simp <;> with_reducible rfl)
                      try simp only [Act.put, List.setIfInBounds_toArray, List.set_cons_zero, List.set_cons_succ]
                      refine wpAnyH_take (i := 13) (oi := ?oi13u42) (v := ?v13u42) ?hi13u42 (by kernel_rfl) (by kernel_rfl) (by kernel_rfl) ?hQ13u42 (Or.inl ⟨?hw13u42, ?hy13u42⟩) hHeld ?rest13u42
                      case hi13u42 => (simp only [List.getElem?_toArray, List.getElem?_cons_succ, List.getElem?_cons_zero]; exact rfl)
                      case hQ13u42 => exact fun _ _ _ h => h
                      case hw13u42 => rfl
                      case hy13u42 => (intro w hSw; (try dsimp only at hSw); go_simp <;> with_reducible rfl)
                      try simp only [Act.put, List.setIfInBounds_toArray, List.set_cons_zero, List.set_cons_succ]
                      refine wpAnyH_take (i := 14) (oi := ?oi14u43) (v := ?v14u43) ?hi14u43 (by kernel_rfl) (by kernel_rfl) (by kernel_rfl) ?hQ14u43 (Or.inl ⟨?hw14u43, ?hy14u43⟩) hHeld ?rest14u43
                      case hi14u43 => (simp only [List.getElem?_toArray, List.getElem?_cons_succ, List.getElem?_cons_zero]; exact rfl)
                      case hQ14u43 => exact fun _ _ _ h => h
                      case hw14u43 => rfl
                      case hy14u43 => (intro w hSw; (try dsimp only at hSw); go_simp <;> with_reducible rfl)
                      try simp only [Act.put, List.setIfInBounds_toArray, List.set_cons_zero, List.set_cons_succ]
                      refine held_one (i := 15) (o := ?oi15u44) (by kernel_rfl) ?hi15u44 (fun K hK => ?rest15u44)
                      case hi15u44 => (simp only [List.getElem?_toArray, List.getElem?_cons_succ, List.getElem?_cons_zero]; exact rfl)
                      go_simp
                      refine hK _ _ (HS.out _ HY.out) ?_
                      clear hK K hHeld
                      have hHeld := HS.out _ HY.out
                      try simp only [Act.put, List.setIfInBounds_toArray, List.set_cons_zero, List.set_cons_succ]
                      generalize w4.alloc (.cells #[.slice none 0 0, .slice none 0 0, .int .i64 0] 25) = Y at *
                      generalize w4.heap.size = gb at *
                      obtain ⟨z0, z1, z2, zl⟩ := open3 Hz.out
                      have zf0 := frozen_of Hz.out 0
                      have zf1 := frozen_of Hz.out 1
                      have zf2 := frozen_of Hz.out 2
                      have hk : Kq gb Y (((Y.setCell ⟨gb, 0, none⟩ (.slice A2 LU.length c2)).setCell ⟨gb, 1, none⟩ (.slice B2 TU.length d2)).setCell ⟨gb, 2, none⟩ (.int .i64 r)) := ((Kq.set Y 0 _).trans (Kq.set _ 1 _)).trans (Kq.set _ 2 _)
                      have h1 := set_block (k := 0) Hz.out (.slice A2 LU.length c2)
                      have h2 := set_block (k := 1) h1 (.slice B2 TU.length d2)
                      have h3 := set_block (k := 2) h2 (.int .i64 r)
                      have HzF : Hid ((((Y.setCell ⟨gb, 0, none⟩ (.slice A2 LU.length c2)).setCell ⟨gb, 1, none⟩ (.slice B2 TU.length d2)).setCell ⟨gb, 2, none⟩ (.int .i64 r)).heap[gb]? = some (.cells #[.slice A2 LU.length c2, .slice B2 TU.length d2, .int .i64 r] 25 (0, 0))) := Lib.hid (by simpa using h3)
                      have HCF := Lib.hid (HCy.out.kq8 hk ⟨_, _, _, _, _, _, Hz.out⟩)
                      have HNF := Lib.hid (HNy.out.kq9 hk Sep.out)
                      have HF := Lib.hid (HY.out.trans (hk.bel.mono Hgb.out))

                      refine held_one (i := 16) (o := ?oi16u45) (by kernel_rfl) ?hi16u45 (fun K hK => ?rest16u45)
                      case hi16u45 => (simp only [List.getElem?_toArray, List.getElem?_cons_succ, List.getElem?_cons_zero]; exact rfl)
                      go_simp
                      refine hK _ _ (HS.out _ HF.out) ?_
                      clear hK K hHeld
                      have hHeld := HS.out _ HF.out
                      try simp only [Act.put, List.setIfInBounds_toArray, List.set_cons_zero, List.set_cons_succ]
                      refine wpAnyH_take (i := 17) (oi := ?oi17u46) (v := ?v17u46) ?hi17u46 (by kernel_rfl) (by kernel_rfl) (by kernel_rfl) ?hQ17u46 (Or.inl ⟨?hw17u46, ?hy17u46⟩) hHeld ?rest17u46
                      case hi17u46 => (simp only [List.getElem?_toArray, List.getElem?_cons_succ, List.getElem?_cons_zero]; exact rfl)
                      case hQ17u46 => exact fun _ _ _ h => h
                      case hw17u46 => rfl
                      case hy17u46 => (intro w hSw; (try dsimp only at hSw); go_simp <;> with_reducible rfl)
                      try simp only [Act.put, List.setIfInBounds_toArray, List.set_cons_zero, List.set_cons_succ]
                      refine wpAnyH_done (by kernel_rfl) ?_ _
                      clear hk h1 h2 h3 z0 z1 z2 zl zf0 zf1 zf2 hHeld
                      generalize (((Y.setCell ⟨gb, 0, none⟩ (.slice A2 LU.length c2)).setCell ⟨gb, 1, none⟩ (.slice B2 TU.length d2)).setCell ⟨gb, 2, none⟩ (.int .i64 r)) = F at *
                      go_wp2_with fail
                      go_meet
                      exact ⟨gb, rfl, rfl, ⟨A2, c2, B2, d2, HzF.out, HCF.out, HNF.out⟩, Hgb.out, HF.out⟩
                    · go_simp
                      have HY0 := Lib.hid (HV.out.alloc HV.out.size (.cells #[.slice none 0 0, .slice none 0 0, .int .i64 0] 25))
                      refine hK _ _ (HS.out _ HY0.out) ?_
                      clear hK K hHeld
                      have hHeld := HS.out _ HY0.out
                      try simp only [Act.put, List.setIfInBounds_toArray, List.set_cons_zero, List.set_cons_succ]
                      have Hz0 := Lib.hid (show (V.alloc (.cells #[.slice none 0 0, .slice none 0 0, .int .i64 0] 25)).heap[V.heap.size]? = some (.cells #[.slice none 0 0, .slice none 0 0, .int .i64 0] 25 (0, 0)) from alloc_at rfl)
                      have Hgb : Hid (X.heap.size ≤ V.heap.size) := Lib.hid HV.out.size
                      have Hgl := Lib.hid (block_lt Hz0.out)
                      generalize V.alloc (.cells #[.slice none 0 0, .slice none 0 0, .int .i64 0] 25) = V2 at *
                      generalize V.heap.size = gb at *
                      refine held_one (i := 11) (o := ?oi11u47) (by kernel_rfl) ?hi11u47 (fun K hK => ?rest11u47)
                      case hi11u47 => (simp only [List.getElem?_toArray, List.getElem?_cons_succ, List.getElem?_cons_zero]; exact rfl)
                      go_simp
                      go_at_call 23
                      refine (Hcall.out _ _ _ _ _ (HCg.out.below HY0.out) (HNg.out.below HY0.out)).mono ?_
                      rintro e w4 ⟨A2, c2, B2, d2, rfl, hC2, hN2, hb4, hor⟩
                      have HY := Lib.hid (HY0.out.trans (hb4.mono HY0.out.size))
                      have Hz := Lib.hid ((hb4.block gb Hgl.out).trans Hz0.out)
                      have HCy := Lib.hid hC2
                      have HNy := Lib.hid hN2
                      have Sep := Lib.hid (show TU.length ≠ 0 → ∀ z, B2 = some z → z.block ≠ gb from fun h0 z hz => by
                        rcases hor with o1 | ⟨o1, o2⟩
                        · exact Nat.ne_of_gt (Nat.lt_of_lt_of_le Hgl.out (o1 z hz))
                        · rw [o2] at h0
                          rw [o1] at hz
                          exact Nat.ne_of_lt (Nat.lt_of_lt_of_le (IsI.lt HNg.out h0 z hz) Hgb.out))
                      clear hC2 hN2 hb4 hor
                      try go_simp
                      refine hK _ _ (HS.out _ HY.out) ?_
                      clear hK K hHeld
                      have hHeld := HS.out _ HY.out
                      try simp only [Act.put, List.setIfInBounds_toArray, List.set_cons_zero, List.set_cons_succ]
                      refine wpAnyH_take (i := 12) (oi := ?oi12u48) (v := ?v12u48) ?hi12u48 (by kernel_rfl) (by kernel_rfl) (by kernel_rfl) ?hQ12u48 (Or.inl ⟨?hw12u48, ?hy12u48⟩) hHeld ?rest12u48
                      case hi12u48 => (simp only [List.getElem?_toArray, List.getElem?_cons_succ, List.getElem?_cons_zero]; exact rfl)
                      case hQ12u48 => exact fun _ _ _ h => h
                      case hw12u48 => rfl
                      case hy12u48 => (intro w hSw; (try dsimp only at hSw); go_simp <;> with_reducible rfl)
                      try simp only [Act.put, List.setIfInBounds_toArray, List.set_cons_zero, List.set_cons_succ]
                      refine wpAnyH_take (i := 13) (oi := ?oi13u49) (v := ?v13u49) ?hi13u49 (by kernel_rfl) (by kernel_rfl) (by kernel_rfl) ?hQ13u49 (Or.inl ⟨?hw13u49, ?hy13u49⟩) hHeld ?rest13u49
                      case hi13u49 => (simp only [List.getElem?_toArray, List.getElem?_cons_succ, List.getElem?_cons_zero]; exact rfl)
                      case hQ13u49 => exact fun _ _ _ h => h
                      case hw13u49 => rfl
                      case hy13u49 => (intro w hSw; (try dsimp only at hSw); go_simp <;> with_reducible rfl)
                      try simp only [Act.put, List.setIfInBounds_toArray, List.set_cons_zero, List.set_cons_succ]
                      refine wpAnyH_take (i := 14) (oi := ?oi14u50) (v := ?v14u50) ?hi14u50 (by kernel_rfl) (by kernel_rfl) (by kernel_rfl) ?hQ14u50 (Or.inl ⟨?hw14u50, ?hy14u50⟩) hHeld ?rest14u50
                      case hi14u50 => (simp only [List.getElem?_toArray, List.getElem?_cons_succ, List.getElem?_cons_zero]; exact rfl)
                      case hQ14u50 => exact fun _ _ _ h => h
                      case hw14u50 => rfl
                      case hy14u50 => (intro w hSw; (try dsimp only at hSw); go_simp <;> with_reducible rfl)
                      try simp only [Act.put, List.setIfInBounds_toArray, List.set_cons_zero, List.set_cons_succ]
                      generalize w4 = Y at *
                      obtain ⟨z0, z1, z2, zl⟩ := open3 Hz.out
                      have zf0 := frozen_of Hz.out 0
                      have zf1 := frozen_of Hz.out 1
                      have zf2 := frozen_of Hz.out 2
                      have hk : Kq gb Y (((Y.setCell ⟨gb, 0, none⟩ (.slice A2 LU.length c2)).setCell ⟨gb, 1, none⟩ (.slice B2 TU.length d2)).setCell ⟨gb, 2, none⟩ (.int .i64 r)) := ((Kq.set Y 0 _).trans (Kq.set _ 1 _)).trans (Kq.set _ 2 _)
                      have h1 := set_block (k := 0) Hz.out (.slice A2 LU.length c2)
                      have h2 := set_block (k := 1) h1 (.slice B2 TU.length d2)
                      have h3 := set_block (k := 2) h2 (.int .i64 r)
                      have HzF : Hid ((((Y.setCell ⟨gb, 0, none⟩ (.slice A2 LU.length c2)).setCell ⟨gb, 1, none⟩ (.slice B2 TU.length d2)).setCell ⟨gb, 2, none⟩ (.int .i64 r)).heap[gb]? = some (.cells #[.slice A2 LU.length c2, .slice B2 TU.length d2, .int .i64 r] 25 (0, 0))) := Lib.hid (by simpa using h3)
                      have HCF := Lib.hid (HCy.out.kq8 hk ⟨_, _, _, _, _, _, Hz.out⟩)
                      have HNF := Lib.hid (HNy.out.kq9 hk Sep.out)
                      have HF := Lib.hid (HY.out.trans (hk.bel.mono Hgb.out))

                      refine held_one (i := 16) (o := ?oi16u51) (by kernel_rfl) ?hi16u51 (fun K hK => ?rest16u51)
                      case hi16u51 => (simp only [List.getElem?_toArray, List.getElem?_cons_succ, List.getElem?_cons_zero]; exact rfl)
                      go_simp
                      refine hK _ _ (HS.out _ HF.out) ?_
                      clear hK K hHeld
                      have hHeld := HS.out _ HF.out
                      try simp only [Act.put, List.setIfInBounds_toArray, List.set_cons_zero, List.set_cons_succ]
                      refine wpAnyH_take (i := 17) (oi := ?oi17u52) (v := ?v17u52) ?hi17u52 (by kernel_rfl) (by kernel_rfl) (by kernel_rfl) ?hQ17u52 (Or.inl ⟨?hw17u52, ?hy17u52⟩) hHeld ?rest17u52
                      case hi17u52 => (simp only [List.getElem?_toArray, List.getElem?_cons_succ, List.getElem?_cons_zero]; exact rfl)
                      case hQ17u52 => exact fun _ _ _ h => h
                      case hw17u52 => rfl
                      case hy17u52 => (intro w hSw; (try dsimp only at hSw); go_simp <;> with_reducible rfl)
                      try simp only [Act.put, List.setIfInBounds_toArray, List.set_cons_zero, List.set_cons_succ]
                      refine wpAnyH_done (by kernel_rfl) ?_ _
                      clear hk h1 h2 h3 z0 z1 z2 zl zf0 zf1 zf2 hHeld
                      generalize (((Y.setCell ⟨gb, 0, none⟩ (.slice A2 LU.length c2)).setCell ⟨gb, 1, none⟩ (.slice B2 TU.length d2)).setCell ⟨gb, 2, none⟩ (.int .i64 r)) = F at *
                      go_wp2_with fail
                      go_meet
                      exact ⟨gb, rfl, rfl, ⟨A2, c2, B2, d2, HzF.out, HCF.out, HNF.out⟩, Hgb.out, HF.out⟩
                case rest =>
                  obtain ⟨gy, rfl, rfl, hBy, hgy, hbn⟩ := hcut
                  have HI2 := Lib.hid (HI1.out.below hbn)
                  clear HI1 hbn hgX
                  have HBy := Lib.hid hBy
                  clear hBy
                  generalize wc = X at *
                  go_upto_region 16 with fail
                  go_cut [138] from 98 to 137 (fun v wx => v = .bool false ∧ Below X.heap.size X wx)
                  case first =>
                    obtain ⟨Ax, cx, Bx, dx, ⟨hCx, hNx⟩, hYx⟩ := HBy.out.open
                    obtain ⟨Ag, cg, Bg, dg, ⟨hCg, hNg⟩, hYg⟩ := HI2.out.heap.open
                    have hS : ∀ w', Below X.heap.size X w' → w'.cell? ⟨gy, 0, none⟩ = some (.slice Ax LU.length cx) ∧ w'.cell? ⟨gy, 1, none⟩ = some (.slice Bx TU.length dx) ∧ w'.cell? ⟨gy, 2, none⟩ = some (.int .i64 r) ∧ w'.cell? ⟨gh, 0, none⟩ = some (.slice Ag L.length cg) ∧ w'.cell? ⟨gh, 1, none⟩ = some (.slice Bg TR.length dg) ∧ w'.cell? ⟨gh, 2, none⟩ = some (.int .i64 r) := fun w' hb => by
                      obtain ⟨p0, p1, p2, _⟩ := hYx w' hb
                      obtain ⟨q0, q1, q2, _⟩ := hYg w' hb
                      exact ⟨p0, p1, p2, q0, q1, q2⟩
                    have hroom := Hs3.out.room
                    have hcapx := hNx.sl.hcap
                    have hmaxx := hNx.sl.hmax
                    unfold maxLen at hmaxx
                    have hTl1 := Ok3.out.tr_len
                    have hTl2 := HI2.out.ok.tr_len
                    have hint := fun wx (hb : Below X.heap.size X wx) => Ints8_any Bx Bg TR.length TR.length dx dg (TU.take TR.length) TR wx ((hNx.take hroom).below hb) (hNg.below hb) (by omega) (by omega)
                    rw [show TU.take TR.length = TR by rw [Hs3.out.tr]; simp, (sameI_iff TR TR).2 rfl] at hint
                    have Hint := Lib.hid (fun wx hb => (hint wx hb).mono fun _ _ h => h.v)
                    have k1 : decide ((TU.length : Int) < (TR.length : Int)) = false := by simp; omega
                    have hcd9 : TR.length ≤ dx := by omega
                    have k1n : decide (TU.length < TR.length) = false := by simp; omega
                    have k1p : ¬ TU.length < TR.length := by omega
                    have k2n : (LU.length == L.length) = true := by rw [Len3.out]; simp
                    have k2d : decide (LU.length = L.length) = true := by rw [Len3.out]; simp
                    have k2 : ((LU.length : Int) == (L.length : Int)) = true := by rw [Len3.out]; simp
                    have Hno := Lib.hid (show isz = false → TU = TR from Hisz.out)
                    clear hint hCx hNx hYx hCg hNg hYg hTl1 hTl2
                    cases isz
                    · have k3 := congrArg List.length (Hno.out rfl)
                      have k4n : decide (TR.length < TU.length) = false := by simp; omega
                      have k4p : ¬ TR.length < TU.length := by omega
                      have k4 : decide ((TR.length : Int) < (TU.length : Int)) = false := by simp; omega
                      clear k3
                      refine wp_region_held_drew (S := fun w' => w'.cell? ⟨gy, 0, none⟩ = some (.slice Ax LU.length cx) ∧ w'.cell? ⟨gy, 1, none⟩ = some (.slice Bx TU.length dx) ∧ w'.cell? ⟨gy, 2, none⟩ = some (.int .i64 r) ∧ w'.cell? ⟨gh, 0, none⟩ = some (.slice Ag L.length cg) ∧ w'.cell? ⟨gh, 1, none⟩ = some (.slice Bg TR.length dg) ∧ w'.cell? ⟨gh, 2, none⟩ = some (.int .i64 r)) (by kernel_rfl) ?gs16 ?gr16
                      case gs16 => exact hS _ (Below.refl _ _).drew
                      case gr16 =>
                        intro hHeld
                        have HS := Lib.hid hS
                        have HV : Hid (Below X.heap.size X X.drew) := Lib.hid ((Below.refl _ _).drew)
                        clear hS
                        generalize X.drew = V at *

                        refine wpAnyH_take (i := 0) (oi := ?oi0u53) (v := ?v0u53) ?hi0u53 (by kernel_rfl) (by kernel_rfl) (by kernel_rfl) ?hQ0u53 (Or.inl ⟨?hw0u53, ?hy0u53⟩) hHeld ?rest0u53
                        case hi0u53 => (simp only [List.getElem?_toArray, List.getElem?_cons_succ, List.getElem?_cons_zero]; exact rfl)
                        case hQ0u53 => exact fun _ _ _ h => h
                        case hw0u53 => rfl
                        case hy0u53 => (intro w hSw; (try dsimp only at hSw); go_simp <;> with_reducible rfl)
                        try simp only [Act.put, List.setIfInBounds_toArray, List.set_cons_zero, List.set_cons_succ]
                        refine wpAnyH_take (i := 1) (oi := ?oi1u54) (v := ?v1u54) ?hi1u54 (by kernel_rfl) (by kernel_rfl) (by kernel_rfl) ?hQ1u54 (Or.inl ⟨?hw1u54, ?hy1u54⟩) hHeld ?rest1u54
                        case hi1u54 => (simp only [List.getElem?_toArray, List.getElem?_cons_succ, List.getElem?_cons_zero]; exact rfl)
                        case hQ1u54 => exact fun _ _ _ h => h
                        case hw1u54 => rfl
                        case hy1u54 => (intro w hSw; (try dsimp only at hSw); go_simp <;> with_reducible rfl)
                        try simp only [Act.put, List.setIfInBounds_toArray, List.set_cons_zero, List.set_cons_succ]
                        refine wpAnyH_take (i := 2) (oi := ?oi2u55) (v := ?v2u55) ?hi2u55 (by kernel_rfl) (by kernel_rfl) (by kernel_rfl) ?hQ2u55 (Or.inl ⟨?hw2u55, ?hy2u55⟩) hHeld ?rest2u55
                        case hi2u55 => (simp only [List.getElem?_toArray, List.getElem?_cons_succ, List.getElem?_cons_zero]; exact rfl)
                        case hQ2u55 => exact fun _ _ _ h => h
                        case hw2u55 => rfl
                        case hy2u55 => (intro w hSw; (try dsimp only at hSw); go_simp <;> with_reducible rfl)
                        try simp only [Act.put, List.setIfInBounds_toArray, List.set_cons_zero, List.set_cons_succ]
                        refine wpAnyH_take (i := 3) (oi := ?oi3u56) (v := ?v3u56) ?hi3u56 (by kernel_rfl) (by kernel_rfl) (by kernel_rfl) ?hQ3u56 (Or.inl ⟨?hw3u56, ?hy3u56⟩) hHeld ?rest3u56
                        case hi3u56 => (simp only [List.getElem?_toArray, List.getElem?_cons_succ, List.getElem?_cons_zero]; exact rfl)
                        case hQ3u56 => exact fun _ _ _ h => h
                        case hw3u56 => rfl
                        case hy3u56 => (intro w hSw; (try dsimp only at hSw); go_simp <;> with_reducible rfl)
                        try simp only [Act.put, List.setIfInBounds_toArray, List.set_cons_zero, List.set_cons_succ]
                        refine wpAnyH_take (i := 4) (oi := ?oi4u57) (v := ?v4u57) ?hi4u57 (by kernel_rfl) (by kernel_rfl) (by kernel_rfl) ?hQ4u57 (Or.inl ⟨?hw4u57, ?hy4u57⟩) hHeld ?rest4u57
                        case hi4u57 => (simp only [List.getElem?_toArray, List.getElem?_cons_succ, List.getElem?_cons_zero]; exact rfl)
                        case hQ4u57 => exact fun _ _ _ h => h
                        case hw4u57 => rfl
                        case hy4u57 => (intro w hSw; (try dsimp only at hSw); go_simp <;> with_reducible rfl)
                        try simp only [Act.put, List.setIfInBounds_toArray, List.set_cons_zero, List.set_cons_succ]
                        refine wpAnyH_take (i := 5) (oi := ?oi5u58) (v := ?v5u58) ?hi5u58 (by kernel_rfl) (by kernel_rfl) (by kernel_rfl) ?hQ5u58 (Or.inl ⟨?hw5u58, ?hy5u58⟩) hHeld ?rest5u58
                        case hi5u58 => (simp only [List.getElem?_toArray, List.getElem?_cons_succ, List.getElem?_cons_zero]; exact rfl)
                        case hQ5u58 => exact fun _ _ _ h => h
                        case hw5u58 => rfl
                        case hy5u58 => (intro w hSw; (try dsimp only at hSw); go_simp <;> with_reducible rfl)
                        try simp only [Act.put, List.setIfInBounds_toArray, List.set_cons_zero, List.set_cons_succ]
                        refine wpAnyH_take (i := 6) (oi := ?oi6u59) (v := ?v6u59) ?hi6u59 (by kernel_rfl) (by kernel_rfl) (by kernel_rfl) ?hQ6u59 (Or.inl ⟨?hw6u59, ?hy6u59⟩) hHeld ?rest6u59
                        case hi6u59 => (simp only [List.getElem?_toArray, List.getElem?_cons_succ, List.getElem?_cons_zero]; exact rfl)
                        case hQ6u59 => exact fun _ _ _ h => h
                        case hw6u59 => rfl
                        case hy6u59 => (intro w hSw; (try dsimp only at hSw); go_simp <;> with_reducible rfl)
                        try simp only [Act.put, List.setIfInBounds_toArray, List.set_cons_zero, List.set_cons_succ]
                        refine wpAnyH_take (i := 7) (oi := ?oi7u60) (v := ?v7u60) ?hi7u60 (by kernel_rfl) (by kernel_rfl) (by kernel_rfl) ?hQ7u60 (Or.inl ⟨?hw7u60, ?hy7u60⟩) hHeld ?rest7u60
                        case hi7u60 => (simp only [List.getElem?_toArray, List.getElem?_cons_succ, List.getElem?_cons_zero]; exact rfl)
                        case hQ7u60 => exact fun _ _ _ h => h
                        case hw7u60 => rfl
                        case hy7u60 => (intro w hSw; (try dsimp only at hSw); go_simp <;> with_reducible rfl)
                        try simp only [Act.put, List.setIfInBounds_toArray, List.set_cons_zero, List.set_cons_succ]
                        refine wpAnyH_take (i := 8) (oi := ?oi8u61) (v := ?v8u61) ?hi8u61 (by kernel_rfl) (by kernel_rfl) (by kernel_rfl) ?hQ8u61 (Or.inl ⟨?hw8u61, ?hy8u61⟩) hHeld ?rest8u61
                        case hi8u61 => (simp only [List.getElem?_toArray, List.getElem?_cons_succ, List.getElem?_cons_zero]; exact rfl)
                        case hQ8u61 => exact fun _ _ _ h => h
                        case hw8u61 => rfl
                        case hy8u61 => (intro w hSw; (try dsimp only at hSw); go_simp <;> with_reducible rfl)
                        try simp only [Act.put, List.setIfInBounds_toArray, List.set_cons_zero, List.set_cons_succ]
                        refine wpAnyH_take (i := 9) (oi := ?oi9u62) (v := ?v9u62) ?hi9u62 (by kernel_rfl) (by kernel_rfl) (by kernel_rfl) ?hQ9u62 (Or.inl ⟨?hw9u62, ?hy9u62⟩) hHeld ?rest9u62
                        case hi9u62 => (simp only [List.getElem?_toArray, List.getElem?_cons_succ, List.getElem?_cons_zero]; exact rfl)
                        case hQ9u62 => exact fun _ _ _ h => h
                        case hw9u62 => rfl
                        case hy9u62 => (intro w hSw; (try dsimp only at hSw); go_simp <;> with_reducible rfl)
                        try simp only [Act.put, List.setIfInBounds_toArray, List.set_cons_zero, List.set_cons_succ]
                        refine wpAnyH_take (i := 10) (oi := ?oi10u63) (v := ?v10u63) ?hi10u63 (by kernel_rfl) (by kernel_rfl) (by kernel_rfl) ?hQ10u63 (Or.inl ⟨?hw10u63, ?hy10u63⟩) hHeld ?rest10u63
                        case hi10u63 => (simp only [List.getElem?_toArray, List.getElem?_cons_succ, List.getElem?_cons_zero]; exact rfl)
                        case hQ10u63 => exact fun _ _ _ h => h
                        case hw10u63 => rfl
                        case hy10u63 => (intro w hSw; (try dsimp only at hSw); go_simp <;> with_reducible rfl)
                        try simp only [Act.put, List.setIfInBounds_toArray, List.set_cons_zero, List.set_cons_succ]
                        refine wpAnyH_take (i := 11) (oi := ?oi11u64) (v := ?v11u64) ?hi11u64 (by kernel_rfl) (by kernel_rfl) (by kernel_rfl) ?hQ11u64 (Or.inl ⟨?hw11u64, ?hy11u64⟩) hHeld ?rest11u64
                        case hi11u64 => (simp only [List.getElem?_toArray, List.getElem?_cons_succ, List.getElem?_cons_zero]; exact rfl)
                        case hQ11u64 => exact fun _ _ _ h => h
                        case hw11u64 => rfl
                        case hy11u64 => (intro w hSw; (try dsimp only at hSw); go_simp <;> with_reducible rfl)
                        try simp only [Act.put, List.setIfInBounds_toArray, List.set_cons_zero, List.set_cons_succ]
                        refine wpAnyH_take (i := 12) (oi := ?oi12u65) (v := ?v12u65) ?hi12u65 (by kernel_rfl) (by kernel_rfl) (by kernel_rfl) ?hQ12u65 (Or.inl ⟨?hw12u65, ?hy12u65⟩) hHeld ?rest12u65
                        case hi12u65 => (simp only [List.getElem?_toArray, List.getElem?_cons_succ, List.getElem?_cons_zero]; exact rfl)
                        case hQ12u65 => exact fun _ _ _ h => h
                        case hw12u65 => rfl
                        case hy12u65 => (intro w hSw; (try dsimp only at hSw); go_simp <;> with_reducible rfl)
                        try simp only [Act.put, List.setIfInBounds_toArray, List.set_cons_zero, List.set_cons_succ]
                        refine wpAnyH_take (i := 13) (oi := ?oi13u66) (v := ?v13u66) ?hi13u66 (by kernel_rfl) (by kernel_rfl) (by kernel_rfl) ?hQ13u66 (Or.inl ⟨?hw13u66, ?hy13u66⟩) hHeld ?rest13u66
                        case hi13u66 => (simp only [List.getElem?_toArray, List.getElem?_cons_succ, List.getElem?_cons_zero]; exact rfl)
                        case hQ13u66 => exact fun _ _ _ h => h
                        case hw13u66 => rfl
                        case hy13u66 => (intro w hSw; (try dsimp only at hSw); go_simp <;> with_reducible rfl)
                        try simp only [Act.put, List.setIfInBounds_toArray, List.set_cons_zero, List.set_cons_succ]
                        refine wpAnyH_take (i := 14) (oi := ?oi14u67) (v := ?v14u67) ?hi14u67 (by kernel_rfl) (by kernel_rfl) (by kernel_rfl) ?hQ14u67 (Or.inl ⟨?hw14u67, ?hy14u67⟩) hHeld ?rest14u67
                        case hi14u67 => (simp only [List.getElem?_toArray, List.getElem?_cons_succ, List.getElem?_cons_zero]; exact rfl)
                        case hQ14u67 => exact fun _ _ _ h => h
                        case hw14u67 => rfl
                        case hy14u67 => (intro w hSw; (try dsimp only at hSw); go_simp <;> with_reducible rfl)
                        try simp only [Act.put, List.setIfInBounds_toArray, List.set_cons_zero, List.set_cons_succ]
                        refine wpAnyH_take (i := 15) (oi := ?oi15u68) (v := ?v15u68) ?hi15u68 (by kernel_rfl) (by kernel_rfl) (by kernel_rfl) ?hQ15u68 (Or.inl ⟨?hw15u68, ?hy15u68⟩) hHeld ?rest15u68
                        case hi15u68 => (simp only [List.getElem?_toArray, List.getElem?_cons_succ, List.getElem?_cons_zero]; exact rfl)
                        case hQ15u68 => exact fun _ _ _ h => h
                        case hw15u68 => rfl
                        case hy15u68 => (intro w hSw; (try dsimp only at hSw); go_simp <;> with_reducible rfl)
                        try simp only [Act.put, List.setIfInBounds_toArray, List.set_cons_zero, List.set_cons_succ]
                        refine held_one (i := 16) (o := ?oi16u69) (by kernel_rfl) ?hi16u69 (fun K hK => ?rest16u69)
                        case hi16u69 => (simp only [List.getElem?_toArray, List.getElem?_cons_succ, List.getElem?_cons_zero]; exact rfl)
                        go_simp
                        go_at_call 27
                        refine (Hint.out _ HV.out).mono ?_
                        rintro e w4 ⟨rfl, hb4⟩
                        have H4 := Lib.hid (HV.out.trans (hb4.mono HV.out.size))
                        try go_simp
                        refine hK _ _ (HS.out _ H4.out) ?_
                        clear hK K hHeld
                        have hHeld := HS.out _ H4.out
                        try simp only [Act.put, List.setIfInBounds_toArray, List.set_cons_zero, List.set_cons_succ]
                        refine wpAnyH_take (i := 17) (oi := ?oi17u70) (v := ?v17u70) ?hi17u70 (by kernel_rfl) (by kernel_rfl) (by kernel_rfl) ?hQ17u70 (Or.inl ⟨?hw17u70, ?hy17u70⟩) hHeld ?rest17u70
                        case hi17u70 => (simp only [List.getElem?_toArray, List.getElem?_cons_succ, List.getElem?_cons_zero]; exact rfl)
                        case hQ17u70 => exact fun _ _ _ h => h
                        case hw17u70 => rfl
                        case hy17u70 => (intro w hSw; (try dsimp only at hSw); go_simp <;> with_reducible rfl)
                        try simp only [Act.put, List.setIfInBounds_toArray, List.set_cons_zero, List.set_cons_succ]
                        refine wpAnyH_take (i := 18) (oi := ?oi18u71) (v := ?v18u71) ?hi18u71 (by kernel_rfl) (by kernel_rfl) (by kernel_rfl) ?hQ18u71 (Or.inl ⟨?hw18u71, ?hy18u71⟩) hHeld ?rest18u71
                        case hi18u71 => (simp only [List.getElem?_toArray, List.getElem?_cons_succ, List.getElem?_cons_zero]; exact rfl)
                        case hQ18u71 => exact fun _ _ _ h => h
                        case hw18u71 => rfl
                        case hy18u71 => (intro w hSw; (try dsimp only at hSw); go_simp <;> with_reducible rfl)
                        try simp only [Act.put, List.setIfInBounds_toArray, List.set_cons_zero, List.set_cons_succ]
                        refine wpAnyH_take (i := 19) (oi := ?oi19u72) (v := ?v19u72) ?hi19u72 (by kernel_rfl) (by kernel_rfl) (by kernel_rfl) ?hQ19u72 (Or.inl ⟨?hw19u72, ?hy19u72⟩) hHeld ?rest19u72
                        case hi19u72 => (simp only [List.getElem?_toArray, List.getElem?_cons_succ, List.getElem?_cons_zero]; exact rfl)
                        case hQ19u72 => exact fun _ _ _ h => h
                        case hw19u72 => rfl
                        case hy19u72 => (intro w hSw; (try dsimp only at hSw); go_simp <;> with_reducible rfl)
                        try simp only [Act.put, List.setIfInBounds_toArray, List.set_cons_zero, List.set_cons_succ]
                        refine wpAnyH_take (i := 20) (oi := ?oi20u73) (v := ?v20u73) ?hi20u73 (by kernel_rfl) (by kernel_rfl) (by kernel_rfl) ?hQ20u73 (Or.inl ⟨?hw20u73, ?hy20u73⟩) hHeld ?rest20u73
                        case hi20u73 => (simp only [List.getElem?_toArray, List.getElem?_cons_succ, List.getElem?_cons_zero]; exact rfl)
                        case hQ20u73 => exact fun _ _ _ h => h
                        case hw20u73 => rfl
                        case hy20u73 => (intro w hSw; (try dsimp only at hSw); go_simp <;> with_reducible rfl)
                        try simp only [Act.put, List.setIfInBounds_toArray, List.set_cons_zero, List.set_cons_succ]
                        refine wpAnyH_take (i := 21) (oi := ?oi21u74) (v := ?v21u74) ?hi21u74 (by kernel_rfl) (by kernel_rfl) (by kernel_rfl) ?hQ21u74 (Or.inl ⟨?hw21u74, ?hy21u74⟩) hHeld ?rest21u74
                        case hi21u74 => (simp only [List.getElem?_toArray, List.getElem?_cons_succ, List.getElem?_cons_zero]; exact rfl)
                        case hQ21u74 => exact fun _ _ _ h => h
                        case hw21u74 => rfl
                        case hy21u74 => (intro w hSw; (try dsimp only at hSw); go_simp <;> with_reducible rfl)
                        try simp only [Act.put, List.setIfInBounds_toArray, List.set_cons_zero, List.set_cons_succ]
                        refine wpAnyH_take (i := 22) (oi := ?oi22u75) (v := ?v22u75) ?hi22u75 (by kernel_rfl) (by kernel_rfl) (by kernel_rfl) ?hQ22u75 (Or.inl ⟨?hw22u75, ?hy22u75⟩) hHeld ?rest22u75
                        case hi22u75 => (simp only [List.getElem?_toArray, List.getElem?_cons_succ, List.getElem?_cons_zero]; exact rfl)
                        case hQ22u75 => exact fun _ _ _ h => h
                        case hw22u75 => rfl
                        case hy22u75 => (intro w hSw; (try dsimp only at hSw); go_simp <;> with_reducible rfl)
                        try simp only [Act.put, List.setIfInBounds_toArray, List.set_cons_zero, List.set_cons_succ]
                        refine wpAnyH_take (i := 23) (oi := ?oi23u76) (v := ?v23u76) ?hi23u76 (by kernel_rfl) (by kernel_rfl) (by kernel_rfl) ?hQ23u76 (Or.inl ⟨?hw23u76, ?hy23u76⟩) hHeld ?rest23u76
                        case hi23u76 => (simp only [List.getElem?_toArray, List.getElem?_cons_succ, List.getElem?_cons_zero]; exact rfl)
                        case hQ23u76 => exact fun _ _ _ h => h
                        case hw23u76 => rfl
                        case hy23u76 => (intro w hSw; (try dsimp only at hSw); go_simp <;> with_reducible rfl)
                        try simp only [Act.put, List.setIfInBounds_toArray, List.set_cons_zero, List.set_cons_succ]
                        refine wpAnyH_take (i := 24) (oi := ?oi24u77) (v := ?v24u77) ?hi24u77 (by kernel_rfl) (by kernel_rfl) (by kernel_rfl) ?hQ24u77 (Or.inl ⟨?hw24u77, ?hy24u77⟩) hHeld ?rest24u77
                        case hi24u77 => (simp only [List.getElem?_toArray, List.getElem?_cons_succ, List.getElem?_cons_zero]; exact rfl)
                        case hQ24u77 => exact fun _ _ _ h => h
                        case hw24u77 => rfl
                        case hy24u77 => (intro w hSw; (try dsimp only at hSw); go_simp <;> with_reducible rfl)
                        try simp only [Act.put, List.setIfInBounds_toArray, List.set_cons_zero, List.set_cons_succ]
                        refine wpAnyH_take (i := 25) (oi := ?oi25u78) (v := ?v25u78) ?hi25u78 (by kernel_rfl) (by kernel_rfl) (by kernel_rfl) ?hQ25u78 (Or.inl ⟨?hw25u78, ?hy25u78⟩) hHeld ?rest25u78
                        case hi25u78 => (simp only [List.getElem?_toArray, List.getElem?_cons_succ, List.getElem?_cons_zero]; exact rfl)
                        case hQ25u78 => exact fun _ _ _ h => h
                        case hw25u78 => rfl
                        case hy25u78 => (intro w hSw; (try dsimp only at hSw); go_simp <;> with_reducible rfl)
                        try simp only [Act.put, List.setIfInBounds_toArray, List.set_cons_zero, List.set_cons_succ]
                        refine wpAnyH_take (i := 26) (oi := ?oi26u79) (v := ?v26u79) ?hi26u79 (by kernel_rfl) (by kernel_rfl) (by kernel_rfl) ?hQ26u79 (Or.inl ⟨?hw26u79, ?hy26u79⟩) hHeld ?rest26u79
                        case hi26u79 => (simp only [List.getElem?_toArray, List.getElem?_cons_succ, List.getElem?_cons_zero]; exact rfl)
                        case hQ26u79 => exact fun _ _ _ h => h
                        case hw26u79 => rfl
                        case hy26u79 => (intro w hSw; (try dsimp only at hSw); go_simp <;> with_reducible rfl)
                        try simp only [Act.put, List.setIfInBounds_toArray, List.set_cons_zero, List.set_cons_succ]
                        refine wpAnyH_take (i := 27) (oi := ?oi27u80) (v := ?v27u80) ?hi27u80 (by kernel_rfl) (by kernel_rfl) (by kernel_rfl) ?hQ27u80 (Or.inl ⟨?hw27u80, ?hy27u80⟩) hHeld ?rest27u80
                        case hi27u80 => (simp only [List.getElem?_toArray, List.getElem?_cons_succ, List.getElem?_cons_zero]; exact rfl)
                        case hQ27u80 => exact fun _ _ _ h => h
                        case hw27u80 => rfl
                        case hy27u80 => (intro w hSw; (try dsimp only at hSw); go_simp <;> with_reducible rfl)
                        try simp only [Act.put, List.setIfInBounds_toArray, List.set_cons_zero, List.set_cons_succ]
                        refine wpAnyH_take (i := 28) (oi := ?oi28u81) (v := ?v28u81) ?hi28u81 (by kernel_rfl) (by kernel_rfl) (by kernel_rfl) ?hQ28u81 (Or.inl ⟨?hw28u81, ?hy28u81⟩) hHeld ?rest28u81
                        case hi28u81 => (simp only [List.getElem?_toArray, List.getElem?_cons_succ, List.getElem?_cons_zero]; exact rfl)
                        case hQ28u81 => exact fun _ _ _ h => h
                        case hw28u81 => rfl
                        case hy28u81 => (intro w hSw; (try dsimp only at hSw); go_simp <;> with_reducible rfl)
                        try simp only [Act.put, List.setIfInBounds_toArray, List.set_cons_zero, List.set_cons_succ]
                        refine wpAnyH_take (i := 29) (oi := ?oi29u82) (v := ?v29u82) ?hi29u82 (by kernel_rfl) (by kernel_rfl) (by kernel_rfl) ?hQ29u82 (Or.inl ⟨?hw29u82, ?hy29u82⟩) hHeld ?rest29u82
                        case hi29u82 => (simp only [List.getElem?_toArray, List.getElem?_cons_succ, List.getElem?_cons_zero]; exact rfl)
                        case hQ29u82 => exact fun _ _ _ h => h
                        case hw29u82 => rfl
                        case hy29u82 => (intro w hSw; (try dsimp only at hSw); go_simp <;> with_reducible rfl)
                        try simp only [Act.put, List.setIfInBounds_toArray, List.set_cons_zero, List.set_cons_succ]
                        refine wpAnyH_take (i := 30) (oi := ?oi30u83) (v := ?v30u83) ?hi30u83 (by kernel_rfl) (by kernel_rfl) (by kernel_rfl) ?hQ30u83 (Or.inl ⟨?hw30u83, ?hy30u83⟩) hHeld ?rest30u83
                        case hi30u83 => (simp only [List.getElem?_toArray, List.getElem?_cons_succ, List.getElem?_cons_zero]; exact rfl)
                        case hQ30u83 => exact fun _ _ _ h => h
                        case hw30u83 => rfl
                        case hy30u83 => (intro w hSw; (try dsimp only at hSw); go_simp <;> with_reducible rfl)
                        try simp only [Act.put, List.setIfInBounds_toArray, List.set_cons_zero, List.set_cons_succ]
                        refine wpAnyH_take (i := 31) (oi := ?oi31u84) (v := ?v31u84) ?hi31u84 (by kernel_rfl) (by kernel_rfl) (by kernel_rfl) ?hQ31u84 (Or.inl ⟨?hw31u84, ?hy31u84⟩) hHeld ?rest31u84
                        case hi31u84 => (simp only [List.getElem?_toArray, List.getElem?_cons_succ, List.getElem?_cons_zero]; exact rfl)
                        case hQ31u84 => exact fun _ _ _ h => h
                        case hw31u84 => rfl
                        case hy31u84 => (intro w hSw; (try dsimp only at hSw); go_simp <;> with_reducible rfl)
                        try simp only [Act.put, List.setIfInBounds_toArray, List.set_cons_zero, List.set_cons_succ]
                        refine wpAnyH_take (i := 32) (oi := ?oi32u85) (v := ?v32u85) ?hi32u85 (by kernel_rfl) (by kernel_rfl) (by kernel_rfl) ?hQ32u85 (Or.inl ⟨?hw32u85, ?hy32u85⟩) hHeld ?rest32u85
                        case hi32u85 => (simp only [List.getElem?_toArray, List.getElem?_cons_succ, List.getElem?_cons_zero]; exact rfl)
                        case hQ32u85 => exact fun _ _ _ h => h
                        case hw32u85 => rfl
                        case hy32u85 => (intro w hSw; (try dsimp only at hSw); go_simp <;> with_reducible rfl)
                        try simp only [Act.put, List.setIfInBounds_toArray, List.set_cons_zero, List.set_cons_succ]
                        refine wpAnyH_take (i := 33) (oi := ?oi33u86) (v := ?v33u86) ?hi33u86 (by kernel_rfl) (by kernel_rfl) (by kernel_rfl) ?hQ33u86 (Or.inl ⟨?hw33u86, ?hy33u86⟩) hHeld ?rest33u86
                        case hi33u86 => (simp only [List.getElem?_toArray, List.getElem?_cons_succ, List.getElem?_cons_zero]; exact rfl)
                        case hQ33u86 => exact fun _ _ _ h => h
                        case hw33u86 => rfl
                        case hy33u86 => (intro w hSw; (try dsimp only at hSw); go_simp <;> with_reducible rfl)
                        try simp only [Act.put, List.setIfInBounds_toArray, List.set_cons_zero, List.set_cons_succ]
                        refine wpAnyH_take (i := 34) (oi := ?oi34u87) (v := ?v34u87) ?hi34u87 (by kernel_rfl) (by kernel_rfl) (by kernel_rfl) ?hQ34u87 (Or.inl ⟨?hw34u87, ?hy34u87⟩) hHeld ?rest34u87
                        case hi34u87 => (simp only [List.getElem?_toArray, List.getElem?_cons_succ, List.getElem?_cons_zero]; exact rfl)
                        case hQ34u87 => exact fun _ _ _ h => h
                        case hw34u87 => rfl
                        case hy34u87 => (intro w hSw; (try dsimp only at hSw); go_simp <;> with_reducible rfl)
                        try simp only [Act.put, List.setIfInBounds_toArray, List.set_cons_zero, List.set_cons_succ]
                        refine wpAnyH_take (i := 35) (oi := ?oi35u88) (v := ?v35u88) ?hi35u88 (by kernel_rfl) (by kernel_rfl) (by kernel_rfl) ?hQ35u88 (Or.inl ⟨?hw35u88, ?hy35u88⟩) hHeld ?rest35u88
                        case hi35u88 => (simp only [List.getElem?_toArray, List.getElem?_cons_succ, List.getElem?_cons_zero]; exact rfl)
                        case hQ35u88 => exact fun _ _ _ h => h
                        case hw35u88 => rfl
                        case hy35u88 => (intro w hSw; (try dsimp only at hSw); go_simp <;> with_reducible rfl)
                        try simp only [Act.put, List.setIfInBounds_toArray, List.set_cons_zero, List.set_cons_succ]
                        refine wpAnyH_take (i := 36) (oi := ?oi36u89) (v := ?v36u89) ?hi36u89 (by kernel_rfl) (by kernel_rfl) (by kernel_rfl) ?hQ36u89 (Or.inl ⟨?hw36u89, ?hy36u89⟩) hHeld ?rest36u89
                        case hi36u89 => (simp only [List.getElem?_toArray, List.getElem?_cons_succ, List.getElem?_cons_zero]; exact rfl)
                        case hQ36u89 => exact fun _ _ _ h => h
                        case hw36u89 => rfl
                        case hy36u89 => (intro w hSw; (try dsimp only at hSw); go_simp <;> with_reducible rfl)
                        try simp only [Act.put, List.setIfInBounds_toArray, List.set_cons_zero, List.set_cons_succ]
                        refine wpAnyH_take (i := 37) (oi := ?oi37u90) (v := ?v37u90) ?hi37u90 (by kernel_rfl) (by kernel_rfl) (by kernel_rfl) ?hQ37u90 (Or.inl ⟨?hw37u90, ?hy37u90⟩) hHeld ?rest37u90
                        case hi37u90 => (simp only [List.getElem?_toArray, List.getElem?_cons_succ, List.getElem?_cons_zero]; exact rfl)
                        case hQ37u90 => exact fun _ _ _ h => h
                        case hw37u90 => rfl
                        case hy37u90 => (intro w hSw; (try dsimp only at hSw); go_simp <;> with_reducible rfl)
                        try simp only [Act.put, List.setIfInBounds_toArray, List.set_cons_zero, List.set_cons_succ]
                        refine wpAnyH_take (i := 38) (oi := ?oi38u91) (v := ?v38u91) ?hi38u91 (by kernel_rfl) (by kernel_rfl) (by kernel_rfl) ?hQ38u91 (Or.inl ⟨?hw38u91, ?hy38u91⟩) hHeld ?rest38u91
                        case hi38u91 => (simp only [List.getElem?_toArray, List.getElem?_cons_succ, List.getElem?_cons_zero]; exact rfl)
                        case hQ38u91 => exact fun _ _ _ h => h
                        case hw38u91 => rfl
                        case hy38u91 => (intro w hSw; (try dsimp only at hSw); go_simp <;> with_reducible rfl)
                        try simp only [Act.put, List.setIfInBounds_toArray, List.set_cons_zero, List.set_cons_succ]
                        refine wpAnyH_take (i := 39) (oi := ?oi39u92) (v := ?v39u92) ?hi39u92 (by kernel_rfl) (by kernel_rfl) (by kernel_rfl) ?hQ39u92 (Or.inl ⟨?hw39u92, ?hy39u92⟩) hHeld ?rest39u92
                        case hi39u92 => (simp only [List.getElem?_toArray, List.getElem?_cons_succ, List.getElem?_cons_zero]; exact rfl)
                        case hQ39u92 => exact fun _ _ _ h => h
                        case hw39u92 => rfl
                        case hy39u92 => (intro w hSw; (try dsimp only at hSw); go_simp <;> with_reducible rfl)
                        try simp only [Act.put, List.setIfInBounds_toArray, List.set_cons_zero, List.set_cons_succ]
                        refine wpAnyH_take (i := 40) (oi := ?oi40u93) (v := ?v40u93) ?hi40u93 (by kernel_rfl) (by kernel_rfl) (by kernel_rfl) ?hQ40u93 (Or.inl ⟨?hw40u93, ?hy40u93⟩) hHeld ?rest40u93
                        case hi40u93 => (simp only [List.getElem?_toArray, List.getElem?_cons_succ, List.getElem?_cons_zero]; exact rfl)
                        case hQ40u93 => exact fun _ _ _ h => h
                        case hw40u93 => rfl
                        case hy40u93 => (intro w hSw; (try dsimp only at hSw); go_simp <;> with_reducible rfl)
                        try simp only [Act.put, List.setIfInBounds_toArray, List.set_cons_zero, List.set_cons_succ]
                        refine wpAnyH_done (by kernel_rfl) ?_ _
                        clear hHeld
                        go_wp2_with fail
                        go_meet
                        exact ⟨by first | rfl | (rw [Len3.out]; simp), H4.out⟩
                    · refine wp_region_held_drew (S := fun w' => w'.cell? ⟨gy, 0, none⟩ = some (.slice Ax LU.length cx) ∧ w'.cell? ⟨gy, 1, none⟩ = some (.slice Bx TU.length dx) ∧ w'.cell? ⟨gy, 2, none⟩ = some (.int .i64 r) ∧ w'.cell? ⟨gh, 0, none⟩ = some (.slice Ag L.length cg) ∧ w'.cell? ⟨gh, 1, none⟩ = some (.slice Bg TR.length dg) ∧ w'.cell? ⟨gh, 2, none⟩ = some (.int .i64 r)) (by kernel_rfl) ?gs16 ?gr16
                      case gs16 => exact hS _ (Below.refl _ _).drew
                      case gr16 =>
                        intro hHeld
                        have HS := Lib.hid hS
                        have HV : Hid (Below X.heap.size X X.drew) := Lib.hid ((Below.refl _ _).drew)
                        clear hS
                        generalize X.drew = V at *

                        refine wpAnyH_take (i := 0) (oi := ?oi0u94) (v := ?v0u94) ?hi0u94 (by kernel_rfl) (by kernel_rfl) (by kernel_rfl) ?hQ0u94 (Or.inl ⟨?hw0u94, ?hy0u94⟩) hHeld ?rest0u94
                        case hi0u94 => (simp only [List.getElem?_toArray, List.getElem?_cons_succ, List.getElem?_cons_zero]; exact rfl)
                        case hQ0u94 => exact fun _ _ _ h => h
                        case hw0u94 => rfl
                        case hy0u94 => (intro w hSw; (try dsimp only at hSw); go_simp <;> with_reducible rfl)
                        try simp only [Act.put, List.setIfInBounds_toArray, List.set_cons_zero, List.set_cons_succ]
                        refine wpAnyH_take (i := 1) (oi := ?oi1u95) (v := ?v1u95) ?hi1u95 (by kernel_rfl) (by kernel_rfl) (by kernel_rfl) ?hQ1u95 (Or.inl ⟨?hw1u95, ?hy1u95⟩) hHeld ?rest1u95
                        case hi1u95 => (simp only [List.getElem?_toArray, List.getElem?_cons_succ, List.getElem?_cons_zero]; exact rfl)
                        case hQ1u95 => exact fun _ _ _ h => h
                        case hw1u95 => rfl
                        case hy1u95 => (intro w hSw; (try dsimp only at hSw); go_simp <;> with_reducible rfl)
                        try simp only [Act.put, List.setIfInBounds_toArray, List.set_cons_zero, List.set_cons_succ]
                        refine wpAnyH_take (i := 2) (oi := ?oi2u96) (v := ?v2u96) ?hi2u96 (by kernel_rfl) (by kernel_rfl) (by kernel_rfl) ?hQ2u96 (Or.inl ⟨?hw2u96, ?hy2u96⟩) hHeld ?rest2u96
                        case hi2u96 => (simp only [List.getElem?_toArray, List.getElem?_cons_succ, List.getElem?_cons_zero]; exact rfl)
                        case hQ2u96 => exact fun _ _ _ h => h
                        case hw2u96 => rfl
                        case hy2u96 => (intro w hSw; (try dsimp only at hSw); go_simp <;> with_reducible rfl)
                        try simp only [Act.put, List.setIfInBounds_toArray, List.set_cons_zero, List.set_cons_succ]
                        refine wpAnyH_take (i := 3) (oi := ?oi3u97) (v := ?v3u97) ?hi3u97 (by kernel_rfl) (by kernel_rfl) (by kernel_rfl) ?hQ3u97 (Or.inl ⟨?hw3u97, ?hy3u97⟩) hHeld ?rest3u97
                        case hi3u97 => (simp only [List.getElem?_toArray, List.getElem?_cons_succ, List.getElem?_cons_zero]; exact rfl)
                        case hQ3u97 => exact fun _ _ _ h => h
                        case hw3u97 => rfl
                        case hy3u97 => (intro w hSw; (try dsimp only at hSw); go_simp <;> with_reducible rfl)
                        try simp only [Act.put, List.setIfInBounds_toArray, List.set_cons_zero, List.set_cons_succ]
                        refine wpAnyH_take (i := 4) (oi := ?oi4u98) (v := ?v4u98) ?hi4u98 (by kernel_rfl) (by kernel_rfl) (by kernel_rfl) ?hQ4u98 (Or.inl ⟨?hw4u98, ?hy4u98⟩) hHeld ?rest4u98
                        case hi4u98 => (simp only [List.getElem?_toArray, List.getElem?_cons_succ, List.getElem?_cons_zero]; exact rfl)
                        case hQ4u98 => exact fun _ _ _ h => h
                        case hw4u98 => rfl
                        case hy4u98 => (intro w hSw; (try dsimp only at hSw); go_simp <;> with_reducible rfl)
                        try simp only [Act.put, List.setIfInBounds_toArray, List.set_cons_zero, List.set_cons_succ]
                        refine wpAnyH_take (i := 5) (oi := ?oi5u99) (v := ?v5u99) ?hi5u99 (by kernel_rfl) (by kernel_rfl) (by kernel_rfl) ?hQ5u99 (Or.inl ⟨?hw5u99, ?hy5u99⟩) hHeld ?rest5u99
                        case hi5u99 => (simp only [List.getElem?_toArray, List.getElem?_cons_succ, List.getElem?_cons_zero]; exact rfl)
                        case hQ5u99 => exact fun _ _ _ h => h
                        case hw5u99 => rfl
                        case hy5u99 => (intro w hSw; (try dsimp only at hSw); go_simp <;> with_reducible rfl)
                        try simp only [Act.put, List.setIfInBounds_toArray, List.set_cons_zero, List.set_cons_succ]
                        refine wpAnyH_take (i := 6) (oi := ?oi6u100) (v := ?v6u100) ?hi6u100 (by kernel_rfl) (by kernel_rfl) (by kernel_rfl) ?hQ6u100 (Or.inl ⟨?hw6u100, ?hy6u100⟩) hHeld ?rest6u100
                        case hi6u100 => (simp only [List.getElem?_toArray, List.getElem?_cons_succ, List.getElem?_cons_zero]; exact rfl)
                        case hQ6u100 => exact fun _ _ _ h => h
                        case hw6u100 => rfl
                        case hy6u100 => (intro w hSw; (try dsimp only at hSw); go_simp <;> with_reducible rfl)
                        try simp only [Act.put, List.setIfInBounds_toArray, List.set_cons_zero, List.set_cons_succ]
                        refine wpAnyH_take (i := 7) (oi := ?oi7u101) (v := ?v7u101) ?hi7u101 (by kernel_rfl) (by kernel_rfl) (by kernel_rfl) ?hQ7u101 (Or.inl ⟨?hw7u101, ?hy7u101⟩) hHeld ?rest7u101
                        case hi7u101 => (simp only [List.getElem?_toArray, List.getElem?_cons_succ, List.getElem?_cons_zero]; exact rfl)
                        case hQ7u101 => exact fun _ _ _ h => h
                        case hw7u101 => rfl
                        case hy7u101 => (intro w hSw; (try dsimp only at hSw); go_simp <;> with_reducible rfl)
                        try simp only [Act.put, List.setIfInBounds_toArray, List.set_cons_zero, List.set_cons_succ]
                        refine wpAnyH_take (i := 8) (oi := ?oi8u102) (v := ?v8u102) ?hi8u102 (by kernel_rfl) (by kernel_rfl) (by kernel_rfl) ?hQ8u102 (Or.inl ⟨?hw8u102, ?hy8u102⟩) hHeld ?rest8u102
                        case hi8u102 => (simp only [List.getElem?_toArray, List.getElem?_cons_succ, List.getElem?_cons_zero]; exact rfl)
                        case hQ8u102 => exact fun _ _ _ h => h
                        case hw8u102 => rfl
                        case hy8u102 => (intro w hSw; (try dsimp only at hSw); go_simp <;> with_reducible rfl)
                        try simp only [Act.put, List.setIfInBounds_toArray, List.set_cons_zero, List.set_cons_succ]
                        refine wpAnyH_take (i := 9) (oi := ?oi9u103) (v := ?v9u103) ?hi9u103 (by kernel_rfl) (by kernel_rfl) (by kernel_rfl) ?hQ9u103 (Or.inl ⟨?hw9u103, ?hy9u103⟩) hHeld ?rest9u103
                        case hi9u103 => (simp only [List.getElem?_toArray, List.getElem?_cons_succ, List.getElem?_cons_zero]; exact rfl)
                        case hQ9u103 => exact fun _ _ _ h => h
                        case hw9u103 => rfl
                        case hy9u103 => (intro w hSw; (try dsimp only at hSw); go_simp <;> with_reducible rfl)
                        try simp only [Act.put, List.setIfInBounds_toArray, List.set_cons_zero, List.set_cons_succ]
                        refine wpAnyH_take (i := 10) (oi := ?oi10u104) (v := ?v10u104) ?hi10u104 (by kernel_rfl) (by kernel_rfl) (by kernel_rfl) ?hQ10u104 (Or.inl ⟨?hw10u104, ?hy10u104⟩) hHeld ?rest10u104
                        case hi10u104 => (simp only [List.getElem?_toArray, List.getElem?_cons_succ, List.getElem?_cons_zero]; exact rfl)
                        case hQ10u104 => exact fun _ _ _ h => h
                        case hw10u104 => rfl
                        case hy10u104 => (intro w hSw; (try dsimp only at hSw); go_simp <;> with_reducible rfl)
                        try simp only [Act.put, List.setIfInBounds_toArray, List.set_cons_zero, List.set_cons_succ]
                        refine wpAnyH_take (i := 11) (oi := ?oi11u105) (v := ?v11u105) ?hi11u105 (by kernel_rfl) (by kernel_rfl) (by kernel_rfl) ?hQ11u105 (Or.inl ⟨?hw11u105, ?hy11u105⟩) hHeld ?rest11u105
                        case hi11u105 => (simp only [List.getElem?_toArray, List.getElem?_cons_succ, List.getElem?_cons_zero]; exact rfl)
                        case hQ11u105 => exact fun _ _ _ h => h
                        case hw11u105 => rfl
                        case hy11u105 => (intro w hSw; (try dsimp only at hSw); go_simp <;> with_reducible rfl)
                        try simp only [Act.put, List.setIfInBounds_toArray, List.set_cons_zero, List.set_cons_succ]
                        refine wpAnyH_take (i := 12) (oi := ?oi12u106) (v := ?v12u106) ?hi12u106 (by kernel_rfl) (by kernel_rfl) (by kernel_rfl) ?hQ12u106 (Or.inl ⟨?hw12u106, ?hy12u106⟩) hHeld ?rest12u106
                        case hi12u106 => (simp only [List.getElem?_toArray, List.getElem?_cons_succ, List.getElem?_cons_zero]; exact rfl)
                        case hQ12u106 => exact fun _ _ _ h => h
                        case hw12u106 => rfl
                        case hy12u106 => (intro w hSw; (try dsimp only at hSw); go_simp <;> with_reducible rfl)
                        try simp only [Act.put, List.setIfInBounds_toArray, List.set_cons_zero, List.set_cons_succ]
                        refine wpAnyH_take (i := 13) (oi := ?oi13u107) (v := ?v13u107) ?hi13u107 (by kernel_rfl) (by kernel_rfl) (by kernel_rfl) ?hQ13u107 (Or.inl ⟨?hw13u107, ?hy13u107⟩) hHeld ?rest13u107
                        case hi13u107 => (simp only [List.getElem?_toArray, List.getElem?_cons_succ, List.getElem?_cons_zero]; exact rfl)
                        case hQ13u107 => exact fun _ _ _ h => h
                        case hw13u107 => rfl
                        case hy13u107 => (intro w hSw; (try dsimp only at hSw); go_simp <;> with_reducible rfl)
                        try simp only [Act.put, List.setIfInBounds_toArray, List.set_cons_zero, List.set_cons_succ]
                        refine wpAnyH_take (i := 14) (oi := ?oi14u108) (v := ?v14u108) ?hi14u108 (by kernel_rfl) (by kernel_rfl) (by kernel_rfl) ?hQ14u108 (Or.inl ⟨?hw14u108, ?hy14u108⟩) hHeld ?rest14u108
                        case hi14u108 => (simp only [List.getElem?_toArray, List.getElem?_cons_succ, List.getElem?_cons_zero]; exact rfl)
                        case hQ14u108 => exact fun _ _ _ h => h
                        case hw14u108 => rfl
                        case hy14u108 => (intro w hSw; (try dsimp only at hSw); go_simp <;> with_reducible rfl)
                        try simp only [Act.put, List.setIfInBounds_toArray, List.set_cons_zero, List.set_cons_succ]
                        refine wpAnyH_take (i := 15) (oi := ?oi15u109) (v := ?v15u109) ?hi15u109 (by kernel_rfl) (by kernel_rfl) (by kernel_rfl) ?hQ15u109 (Or.inl ⟨?hw15u109, ?hy15u109⟩) hHeld ?rest15u109
                        case hi15u109 => (simp only [List.getElem?_toArray, List.getElem?_cons_succ, List.getElem?_cons_zero]; exact rfl)
                        case hQ15u109 => exact fun _ _ _ h => h
                        case hw15u109 => rfl
                        case hy15u109 => (intro w hSw; (try dsimp only at hSw); go_simp <;> with_reducible rfl)
                        try simp only [Act.put, List.setIfInBounds_toArray, List.set_cons_zero, List.set_cons_succ]
                        refine held_one (i := 16) (o := ?oi16u110) (by kernel_rfl) ?hi16u110 (fun K hK => ?rest16u110)
                        case hi16u110 => (simp only [List.getElem?_toArray, List.getElem?_cons_succ, List.getElem?_cons_zero]; exact rfl)
                        go_simp
                        go_at_call 27
                        refine (Hint.out _ HV.out).mono ?_
                        rintro e w4 ⟨rfl, hb4⟩
                        have H4 := Lib.hid (HV.out.trans (hb4.mono HV.out.size))
                        try go_simp
                        refine hK _ _ (HS.out _ H4.out) ?_
                        clear hK K hHeld
                        have hHeld := HS.out _ H4.out
                        try simp only [Act.put, List.setIfInBounds_toArray, List.set_cons_zero, List.set_cons_succ]
                        refine wpAnyH_take (i := 17) (oi := ?oi17u111) (v := ?v17u111) ?hi17u111 (by kernel_rfl) (by kernel_rfl) (by kernel_rfl) ?hQ17u111 (Or.inl ⟨?hw17u111, ?hy17u111⟩) hHeld ?rest17u111
                        case hi17u111 => (simp only [List.getElem?_toArray, List.getElem?_cons_succ, List.getElem?_cons_zero]; exact rfl)
                        case hQ17u111 => exact fun _ _ _ h => h
                        case hw17u111 => rfl
                        case hy17u111 => (intro w hSw; (try dsimp only at hSw); go_simp <;> with_reducible rfl)
                        try simp only [Act.put, List.setIfInBounds_toArray, List.set_cons_zero, List.set_cons_succ]
                        refine wpAnyH_take (i := 18) (oi := ?oi18u112) (v := ?v18u112) ?hi18u112 (by kernel_rfl) (by kernel_rfl) (by kernel_rfl) ?hQ18u112 (Or.inl ⟨?hw18u112, ?hy18u112⟩) hHeld ?rest18u112
                        case hi18u112 => (simp only [List.getElem?_toArray, List.getElem?_cons_succ, List.getElem?_cons_zero]; exact rfl)
                        case hQ18u112 => exact fun _ _ _ h => h
                        case hw18u112 => rfl
                        case hy18u112 => (intro w hSw; (try dsimp only at hSw); go_simp <;> with_reducible rfl)
                        try simp only [Act.put, List.setIfInBounds_toArray, List.set_cons_zero, List.set_cons_succ]
                        refine wpAnyH_take (i := 19) (oi := ?oi19u113) (v := ?v19u113) ?hi19u113 (by kernel_rfl) (by kernel_rfl) (by kernel_rfl) ?hQ19u113 (Or.inl ⟨?hw19u113, ?hy19u113⟩) hHeld ?rest19u113
                        case hi19u113 => (simp only [List.getElem?_toArray, List.getElem?_cons_succ, List.getElem?_cons_zero]; exact rfl)
                        case hQ19u113 => exact fun _ _ _ h => h
                        case hw19u113 => rfl
                        case hy19u113 => (intro w hSw; (try dsimp only at hSw); go_simp <;> with_reducible rfl)
                        try simp only [Act.put, List.setIfInBounds_toArray, List.set_cons_zero, List.set_cons_succ]
                        refine wpAnyH_take (i := 20) (oi := ?oi20u114) (v := ?v20u114) ?hi20u114 (by kernel_rfl) (by kernel_rfl) (by kernel_rfl) ?hQ20u114 (Or.inl ⟨?hw20u114, ?hy20u114⟩) hHeld ?rest20u114
                        case hi20u114 => (simp only [List.getElem?_toArray, List.getElem?_cons_succ, List.getElem?_cons_zero]; exact rfl)
                        case hQ20u114 => exact fun _ _ _ h => h
                        case hw20u114 => rfl
                        case hy20u114 => (intro w hSw; (try dsimp only at hSw); go_simp <;> with_reducible rfl)
                        try simp only [Act.put, List.setIfInBounds_toArray, List.set_cons_zero, List.set_cons_succ]
                        refine wpAnyH_take (i := 21) (oi := ?oi21u115) (v := ?v21u115) ?hi21u115 (by kernel_rfl) (by kernel_rfl) (by kernel_rfl) ?hQ21u115 (Or.inl ⟨?hw21u115, ?hy21u115⟩) hHeld ?rest21u115
                        case hi21u115 => (simp only [List.getElem?_toArray, List.getElem?_cons_succ, List.getElem?_cons_zero]; exact rfl)
                        case hQ21u115 => exact fun _ _ _ h => h
                        case hw21u115 => rfl
                        case hy21u115 => (intro w hSw; (try dsimp only at hSw); go_simp <;> with_reducible rfl)
                        try simp only [Act.put, List.setIfInBounds_toArray, List.set_cons_zero, List.set_cons_succ]
                        refine wpAnyH_take (i := 22) (oi := ?oi22u116) (v := ?v22u116) ?hi22u116 (by kernel_rfl) (by kernel_rfl) (by kernel_rfl) ?hQ22u116 (Or.inl ⟨?hw22u116, ?hy22u116⟩) hHeld ?rest22u116
                        case hi22u116 => (simp only [List.getElem?_toArray, List.getElem?_cons_succ, List.getElem?_cons_zero]; exact rfl)
                        case hQ22u116 => exact fun _ _ _ h => h
                        case hw22u116 => rfl
                        case hy22u116 => (intro w hSw; (try dsimp only at hSw); go_simp <;> with_reducible rfl)
                        try simp only [Act.put, List.setIfInBounds_toArray, List.set_cons_zero, List.set_cons_succ]
                        refine wpAnyH_take (i := 23) (oi := ?oi23u117) (v := undef) ?hi23u117 (by kernel_rfl) (by kernel_rfl) (by kernel_rfl) ?hQ23u117 (Or.inr ⟨?hw23u117, rfl⟩) hHeld ?rest23u117
                        case hi23u117 => (simp only [List.getElem?_toArray, List.getElem?_cons_succ, List.getElem?_cons_zero]; exact rfl)
                        case hQ23u117 => exact fun _ _ _ h => h
                        case hw23u117 => rfl
                        try simp only [Act.put, List.setIfInBounds_toArray, List.set_cons_zero, List.set_cons_succ]
                        refine wpAnyH_take (i := 24) (oi := ?oi24u118) (v := undef) ?hi24u118 (by kernel_rfl) (by kernel_rfl) (by kernel_rfl) ?hQ24u118 (Or.inr ⟨?hw24u118, rfl⟩) hHeld ?rest24u118
                        case hi24u118 => (simp only [List.getElem?_toArray, List.getElem?_cons_succ, List.getElem?_cons_zero]; exact rfl)
                        case hQ24u118 => exact fun _ _ _ h => h
                        case hw24u118 => rfl
                        try simp only [Act.put, List.setIfInBounds_toArray, List.set_cons_zero, List.set_cons_succ]
                        refine wpAnyH_take (i := 25) (oi := ?oi25u119) (v := undef) ?hi25u119 (by kernel_rfl) (by kernel_rfl) (by kernel_rfl) ?hQ25u119 (Or.inr ⟨?hw25u119, rfl⟩) hHeld ?rest25u119
                        case hi25u119 => (simp only [List.getElem?_toArray, List.getElem?_cons_succ, List.getElem?_cons_zero]; exact rfl)
                        case hQ25u119 => exact fun _ _ _ h => h
                        case hw25u119 => rfl
                        try simp only [Act.put, List.setIfInBounds_toArray, List.set_cons_zero, List.set_cons_succ]
                        refine wpAnyH_take (i := 26) (oi := ?oi26u120) (v := undef) ?hi26u120 (by kernel_rfl) (by kernel_rfl) (by kernel_rfl) ?hQ26u120 (Or.inr ⟨?hw26u120, rfl⟩) hHeld ?rest26u120
                        case hi26u120 => (simp only [List.getElem?_toArray, List.getElem?_cons_succ, List.getElem?_cons_zero]; exact rfl)
                        case hQ26u120 => exact fun _ _ _ h => h
                        case hw26u120 => rfl
                        try simp only [Act.put, List.setIfInBounds_toArray, List.set_cons_zero, List.set_cons_succ]
                        refine wpAnyH_take (i := 27) (oi := ?oi27u121) (v := undef) ?hi27u121 (by kernel_rfl) (by kernel_rfl) (by kernel_rfl) ?hQ27u121 (Or.inr ⟨?hw27u121, rfl⟩) hHeld ?rest27u121
                        case hi27u121 => (simp only [List.getElem?_toArray, List.getElem?_cons_succ, List.getElem?_cons_zero]; exact rfl)
                        case hQ27u121 => exact fun _ _ _ h => h
                        case hw27u121 => rfl
                        try simp only [Act.put, List.setIfInBounds_toArray, List.set_cons_zero, List.set_cons_succ]
                        refine wpAnyH_take (i := 28) (oi := ?oi28u122) (v := undef) ?hi28u122 (by kernel_rfl) (by kernel_rfl) (by kernel_rfl) ?hQ28u122 (Or.inr ⟨?hw28u122, rfl⟩) hHeld ?rest28u122
                        case hi28u122 => (simp only [List.getElem?_toArray, List.getElem?_cons_succ, List.getElem?_cons_zero]; exact rfl)
                        case hQ28u122 => exact fun _ _ _ h => h
                        case hw28u122 => rfl
                        try simp only [Act.put, List.setIfInBounds_toArray, List.set_cons_zero, List.set_cons_succ]
                        refine wpAnyH_take (i := 29) (oi := ?oi29u123) (v := undef) ?hi29u123 (by kernel_rfl) (by kernel_rfl) (by kernel_rfl) ?hQ29u123 (Or.inr ⟨?hw29u123, rfl⟩) hHeld ?rest29u123
                        case hi29u123 => (simp only [List.getElem?_toArray, List.getElem?_cons_succ, List.getElem?_cons_zero]; exact rfl)
                        case hQ29u123 => exact fun _ _ _ h => h
                        case hw29u123 => rfl
                        try simp only [Act.put, List.setIfInBounds_toArray, List.set_cons_zero, List.set_cons_succ]
                        refine wpAnyH_take (i := 30) (oi := ?oi30u124) (v := ?v30u124) ?hi30u124 (by kernel_rfl) (by kernel_rfl) (by kernel_rfl) ?hQ30u124 (Or.inl ⟨?hw30u124, ?hy30u124⟩) hHeld ?rest30u124
                        case hi30u124 => (simp only [List.getElem?_toArray, List.getElem?_cons_succ, List.getElem?_cons_zero]; exact rfl)
                        case hQ30u124 => exact fun _ _ _ h => h
                        case hw30u124 => rfl
                        case hy30u124 => (intro w hSw; (try dsimp only at hSw); go_simp <;> with_reducible rfl)
                        try simp only [Act.put, List.setIfInBounds_toArray, List.set_cons_zero, List.set_cons_succ]
                        refine wpAnyH_take (i := 31) (oi := ?oi31u125) (v := ?v31u125) ?hi31u125 (by kernel_rfl) (by kernel_rfl) (by kernel_rfl) ?hQ31u125 (Or.inl ⟨?hw31u125, ?hy31u125⟩) hHeld ?rest31u125
                        case hi31u125 => (simp only [List.getElem?_toArray, List.getElem?_cons_succ, List.getElem?_cons_zero]; exact rfl)
                        case hQ31u125 => exact fun _ _ _ h => h
                        case hw31u125 => rfl
                        case hy31u125 => (intro w hSw; (try dsimp only at hSw); go_simp <;> with_reducible rfl)
                        try simp only [Act.put, List.setIfInBounds_toArray, List.set_cons_zero, List.set_cons_succ]
                        refine wpAnyH_take (i := 32) (oi := ?oi32u126) (v := ?v32u126) ?hi32u126 (by kernel_rfl) (by kernel_rfl) (by kernel_rfl) ?hQ32u126 (Or.inl ⟨?hw32u126, ?hy32u126⟩) hHeld ?rest32u126
                        case hi32u126 => (simp only [List.getElem?_toArray, List.getElem?_cons_succ, List.getElem?_cons_zero]; exact rfl)
                        case hQ32u126 => exact fun _ _ _ h => h
                        case hw32u126 => rfl
                        case hy32u126 => (intro w hSw; (try dsimp only at hSw); go_simp <;> with_reducible rfl)
                        try simp only [Act.put, List.setIfInBounds_toArray, List.set_cons_zero, List.set_cons_succ]
                        refine wpAnyH_take (i := 33) (oi := ?oi33u127) (v := ?v33u127) ?hi33u127 (by kernel_rfl) (by kernel_rfl) (by kernel_rfl) ?hQ33u127 (Or.inl ⟨?hw33u127, ?hy33u127⟩) hHeld ?rest33u127
                        case hi33u127 => (simp only [List.getElem?_toArray, List.getElem?_cons_succ, List.getElem?_cons_zero]; exact rfl)
                        case hQ33u127 => exact fun _ _ _ h => h
                        case hw33u127 => rfl
                        case hy33u127 => (intro w hSw; (try dsimp only at hSw); go_simp <;> with_reducible rfl)
                        try simp only [Act.put, List.setIfInBounds_toArray, List.set_cons_zero, List.set_cons_succ]
                        refine wpAnyH_take (i := 34) (oi := ?oi34u128) (v := ?v34u128) ?hi34u128 (by kernel_rfl) (by kernel_rfl) (by kernel_rfl) ?hQ34u128 (Or.inl ⟨?hw34u128, ?hy34u128⟩) hHeld ?rest34u128
                        case hi34u128 => (simp only [List.getElem?_toArray, List.getElem?_cons_succ, List.getElem?_cons_zero]; exact rfl)
                        case hQ34u128 => exact fun _ _ _ h => h
                        case hw34u128 => rfl
                        case hy34u128 => (intro w hSw; (try dsimp only at hSw); go_simp <;> with_reducible rfl)
                        try simp only [Act.put, List.setIfInBounds_toArray, List.set_cons_zero, List.set_cons_succ]
                        refine wpAnyH_take (i := 35) (oi := ?oi35u129) (v := ?v35u129) ?hi35u129 (by kernel_rfl) (by kernel_rfl) (by kernel_rfl) ?hQ35u129 (Or.inl ⟨?hw35u129, ?hy35u129⟩) hHeld ?rest35u129
                        case hi35u129 => (simp only [List.getElem?_toArray, List.getElem?_cons_succ, List.getElem?_cons_zero]; exact rfl)
                        case hQ35u129 => exact fun _ _ _ h => h
                        case hw35u129 => rfl
                        case hy35u129 => (intro w hSw; (try dsimp only at hSw); go_simp <;> with_reducible rfl)
                        try simp only [Act.put, List.setIfInBounds_toArray, List.set_cons_zero, List.set_cons_succ]
                        refine wpAnyH_take (i := 36) (oi := ?oi36u130) (v := ?v36u130) ?hi36u130 (by kernel_rfl) (by kernel_rfl) (by kernel_rfl) ?hQ36u130 (Or.inl ⟨?hw36u130, ?hy36u130⟩) hHeld ?rest36u130
                        case hi36u130 => (simp only [List.getElem?_toArray, List.getElem?_cons_succ, List.getElem?_cons_zero]; exact rfl)
                        case hQ36u130 => exact fun _ _ _ h => h
                        case hw36u130 => rfl
                        case hy36u130 => (intro w hSw; (try dsimp only at hSw); go_simp <;> with_reducible rfl)
                        try simp only [Act.put, List.setIfInBounds_toArray, List.set_cons_zero, List.set_cons_succ]
                        refine wpAnyH_take (i := 37) (oi := ?oi37u131) (v := ?v37u131) ?hi37u131 (by kernel_rfl) (by kernel_rfl) (by kernel_rfl) ?hQ37u131 (Or.inl ⟨?hw37u131, ?hy37u131⟩) hHeld ?rest37u131
                        case hi37u131 => (simp only [List.getElem?_toArray, List.getElem?_cons_succ, List.getElem?_cons_zero]; exact rfl)
                        case hQ37u131 => exact fun _ _ _ h => h
                        case hw37u131 => rfl
                        case hy37u131 => (intro w hSw; (try dsimp only at hSw); go_simp <;> with_reducible rfl)
                        try simp only [Act.put, List.setIfInBounds_toArray, List.set_cons_zero, List.set_cons_succ]
                        refine wpAnyH_take (i := 38) (oi := ?oi38u132) (v := ?v38u132) ?hi38u132 (by kernel_rfl) (by kernel_rfl) (by kernel_rfl) ?hQ38u132 (Or.inl ⟨?hw38u132, ?hy38u132⟩) hHeld ?rest38u132
                        case hi38u132 => (simp only [List.getElem?_toArray, List.getElem?_cons_succ, List.getElem?_cons_zero]; exact rfl)
                        case hQ38u132 => exact fun _ _ _ h => h
                        case hw38u132 => rfl
                        case hy38u132 => (intro w hSw; (try dsimp only at hSw); go_simp <;> with_reducible rfl)
                        try simp only [Act.put, List.setIfInBounds_toArray, List.set_cons_zero, List.set_cons_succ]
                        refine wpAnyH_take (i := 39) (oi := ?oi39u133) (v := ?v39u133) ?hi39u133 (by kernel_rfl) (by kernel_rfl) (by kernel_rfl) ?hQ39u133 (Or.inl ⟨?hw39u133, ?hy39u133⟩) hHeld ?rest39u133
                        case hi39u133 => (simp only [List.getElem?_toArray, List.getElem?_cons_succ, List.getElem?_cons_zero]; exact rfl)
                        case hQ39u133 => exact fun _ _ _ h => h
                        case hw39u133 => rfl
                        case hy39u133 => (intro w hSw; (try dsimp only at hSw); go_simp <;> with_reducible rfl)
                        try simp only [Act.put, List.setIfInBounds_toArray, List.set_cons_zero, List.set_cons_succ]
                        refine wpAnyH_take (i := 40) (oi := ?oi40u134) (v := ?v40u134) ?hi40u134 (by kernel_rfl) (by kernel_rfl) (by kernel_rfl) ?hQ40u134 (Or.inl ⟨?hw40u134, ?hy40u134⟩) hHeld ?rest40u134
                        case hi40u134 => (simp only [List.getElem?_toArray, List.getElem?_cons_succ, List.getElem?_cons_zero]; exact rfl)
                        case hQ40u134 => exact fun _ _ _ h => h
                        case hw40u134 => rfl
                        case hy40u134 => (intro w hSw; (try dsimp only at hSw); go_simp <;> with_reducible rfl)
                        try simp only [Act.put, List.setIfInBounds_toArray, List.set_cons_zero, List.set_cons_succ]
                        refine wpAnyH_done (by kernel_rfl) ?_ _
                        clear hHeld
                        go_wp2_with fail
                        go_meet
                        exact ⟨by first | rfl | (rw [Len3.out]; simp), H4.out⟩
                  case rest =>
                    obtain ⟨rfl, hbn⟩ := hcut
                    have hI2 := HI2.out.below hbn
                    have hBy := HBy.out.below hbn
                    obtain ⟨Ax, cx, Bx, dx, ⟨hCx, hNx⟩, hYx⟩ := hBy.open
                    obtain ⟨y0, y1, y2, yl⟩ := hYx _ (Below.refl _ _)
                    obtain ⟨v0, v1, u0, u1, u2, ul, f0, f1, f2⟩ := hI2.heap.rb.open
                    obtain ⟨hst, hkq⟩ := hI2.store n0 nw Hok.out hCx hNx Ok3.out (Nat.le_of_eq Len3.out.symm) Hs3.out
                    have HI4 := Lib.hid hst
                    clear hI2 hBy hCx hNx hYx hst hkq HBy HI2
                    go_wp2
                    go_roundw
                    case rel => exact ⟨i + 1, LU, TU, ds ++ ds3, a, D, pn, e, by omega, by omega, by go_num, rfl, HI4.out⟩
                    case measure => simp [intOf]; omega
          · have hd3 : decide ((L.length : Int) ≤ 300) = false := by simp; omega
            obtain ⟨A3, c3, B3, d3, ⟨hC3, hN3⟩, hY3⟩ := hI.heap.open
            obtain ⟨A4, c4, B4, d4, ⟨hC4, hN4⟩, hY4⟩ := hI.old.open
            have hlo := hI.low
            have hoo := hI.ok.tr_len
            have hri := hRight_any A3 B3 L.length c3 TR.length d3 r L TR wr hC3 hN3 (by omega) (by omega)
            rw [rightH_iff.2 hI.ok] at hri
            have Hri := Lib.hid hri
            have HY3 := Lib.hid hY3
            have HY4 := Lib.hid hY4
            clear hri hI hC3 hN3 hC4 hN4 hY3 hY4 y0 y1 y2 yl
            obtain ⟨y0, y1, y2, yl⟩ := HYg0.out _ (Below.refl _ _)
            go_upto_region 19 with fail
            clear y0 y1 y2 yl
            obtain ⟨y0, y1, y2, yl⟩ := HY3.out _ (Below.refl _ _)
            go_wp2_with fail
            refine Hri.out.mono ?_
            rintro e5 w5 ⟨rfl, hb5⟩
            clear y0 y1 y2 yl
            obtain ⟨y0, y1, y2, yl⟩ := HY3.out _ hb5
            obtain ⟨z0, z1, z2, zl⟩ := HY4.out _ hb5
            go_wp2
            refine bodyPost_ret (v := .bool true) (by simp [results, Try.results9, go_sem, *]) rfl ?_
            exact ⟨rfl, hlo.trans (hb5.mono hlo.size)⟩
        · have hd1 : decide ((i : Int) < (nq : Int)) = true := by simp; omega
          have hd2 : decide ((i : Int) < 20) = false := by simp; omega
          obtain ⟨A3, c3, B3, d3, ⟨hC3, hN3⟩, hY3⟩ := hI.heap.open
          obtain ⟨A4, c4, B4, d4, ⟨hC4, hN4⟩, hY4⟩ := hI.old.open
          have hlo := hI.low
          have hoo := hI.ok.tr_len
          have hri := hRight_any A3 B3 L.length c3 TR.length d3 r L TR wr hC3 hN3 (by omega) (by omega)
          rw [rightH_iff.2 hI.ok] at hri
          have Hri := Lib.hid hri
          have HY3 := Lib.hid hY3
          have HY4 := Lib.hid hY4
          clear hri hI hC3 hN3 hC4 hN4 hY3 hY4 y0 y1 y2 yl
          obtain ⟨y0, y1, y2, yl⟩ := HYg0.out _ (Below.refl _ _)
          go_upto_region 19 with fail
          clear y0 y1 y2 yl
          obtain ⟨y0, y1, y2, yl⟩ := HY3.out _ (Below.refl _ _)
          go_wp2_with fail
          refine Hri.out.mono ?_
          rintro e5 w5 ⟨rfl, hb5⟩
          clear y0 y1 y2 yl
          obtain ⟨y0, y1, y2, yl⟩ := HY3.out _ hb5
          obtain ⟨z0, z1, z2, zl⟩ := HY4.out _ hb5
          go_wp2
          refine bodyPost_ret (v := .bool true) (by simp [results, Try.results9, go_sem, *]) rfl ?_
          exact ⟨rfl, hlo.trans (hb5.mono hlo.size)⟩
      · have hd1 : decide ((i : Int) < (nq : Int)) = false := by simp; omega
        obtain ⟨A3, c3, B3, d3, ⟨hC3, hN3⟩, hY3⟩ := hI.heap.open
        obtain ⟨A4, c4, B4, d4, ⟨hC4, hN4⟩, hY4⟩ := hI.old.open
        have hlo := hI.low
        have hoo := hI.ok.tr_len
        have hri := hRight_any A3 B3 L.length c3 TR.length d3 r L TR wr hC3 hN3 (by omega) (by omega)
        rw [rightH_iff.2 hI.ok] at hri
        have Hri := Lib.hid hri
        have HY3 := Lib.hid hY3
        have HY4 := Lib.hid hY4
        clear hri hI hC3 hN3 hC4 hN4 hY3 hY4 y0 y1 y2 yl
        obtain ⟨y0, y1, y2, yl⟩ := HYg0.out _ (Below.refl _ _)
        go_upto_region 19 with fail
        clear y0 y1 y2 yl
        obtain ⟨y0, y1, y2, yl⟩ := HY3.out _ (Below.refl _ _)
        go_wp2_with fail
        refine Hri.out.mono ?_
        rintro e5 w5 ⟨rfl, hb5⟩
        clear y0 y1 y2 yl
        obtain ⟨y0, y1, y2, yl⟩ := HY3.out _ hb5
        obtain ⟨z0, z1, z2, zl⟩ := HY4.out _ hb5
        go_wp2
        refine bodyPost_ret (v := .bool true) (by simp [results, Try.results9, go_sem, *]) rfl ?_
        exact ⟨rfl, hlo.trans (hb5.mono hlo.size)⟩
end Go.Proofs.Ytlndjooddkjnoaa
