/- The walk of the law HeapAlike. -/
import Derived.WalkMore
import Derived.Test.YtlndjooddkjnoaaHpW
import Derived.Test.YtlndjooddkjnoaaUV
import Derived.Test.YtlndjooddkjnoaaLA0
set_option linter.unusedVariables false
set_option linter.unusedSimpArgs false
namespace Go.Proofs.Ytlndjooddkjnoaa
open Go.RowKit
set_option maxRecDepth 100000 in
set_option maxHeartbeats 8000000 in
theorem heapAlike_walk (A : Option Addr) (n c : Nat) (l : List C) (B : Option Addr) (m d : Nat) (l2 : List C) (w : World) (h : IsC w A n c l) (h2 : IsC w B m d l2) :
    Calls Try.prog 6 #[.slice A n c, .slice B m d] w (RetV w (.bool true)) := by
  have hc1 := h.sl.hcap
  have hc2 := h.sl.hmax
  have hc3 := h2.sl.hcap
  have hc4 := h2.sl.hmax
  unfold maxLen at hc2 hc4
  have H1 := Lib.hid h
  have H2 := Lib.hid h2
  clear h h2
  go_enter Try.func6, Try.ntmps6
  go_upto_region 1 with fail
  go_wp2_with fail
  refine (head8_any _).mono ?_
  rintro e w1 ⟨rfl, hbn⟩
  have Hb1 := Lib.hid hbn
  clear hbn
  by_cases hn : n ≤ 60
  · by_cases hm : m ≤ 60
    · have Hr1 := Lib.hid (rRight_any A n c l w1 (H1.out.below Hb1.out) (by omega))
      have Hr2 := Lib.hid (fun wx (hb : Below w.heap.size w wx) => rRight_any B m d l2 wx (H2.out.below hb) (by omega))
      cases hr1 : rightB l
      · rw [hr1] at Hr1
        clear hr1
        go_wp2_with (first
          | (go_at_call 17; go_must (refine Hr1.out.mono ?_); rintro e w2 ⟨rfl, hb2⟩; have Hb2 := Lib.hid (Hb1.out.trans (hb2.mono Hb1.out.size)); clear hb2))
        go_ret
        exact ⟨rfl, Hb2.out⟩
      · rw [hr1] at Hr1
        have HR1 := Lib.hid hr1
        clear hr1
        go_wp2_with (first
          | (go_at_call 17; go_must (refine Hr1.out.mono ?_)))
        rintro e w2 ⟨rfl, hb2⟩
        have Hb2 := Lib.hid (Hb1.out.trans (hb2.mono Hb1.out.size))
        have Hr3 := Lib.hid (Hr2.out w2 Hb2.out)
        clear hb2 Hr1 Hr2
        cases hr2 : rightB l2
        · rw [hr2] at Hr3
          clear hr2
          go_wp2_with (first
            | (go_at_call 17; go_must (refine Hr3.out.mono ?_); rintro e w3 ⟨rfl, hb3⟩; have Hb3 := Lib.hid (Hb2.out.trans (hb3.mono Hb2.out.size)); clear hb3))
          go_ret
          exact ⟨rfl, Hb3.out⟩
        · rw [hr2] at Hr3
          have HR2 := Lib.hid hr2
          clear hr2
          go_upto_region 4 with (first
            | (go_at_call 17; go_must (refine Hr3.out.mono ?_); rintro e w3 ⟨rfl, hb3⟩; have Hb3 := Lib.hid (Hb2.out.trans (hb3.mono Hb2.out.size)); clear hb3))
          obtain ⟨T, okT, fT, _⟩ := right_tree HR1.out
          obtain ⟨U, okU, fU, _⟩ := right_tree HR2.out
          subst fT fU
          have sT : T.size ≤ 60 := by have := H1.out.len; rw [flat_size] at this; omega
          have sU : U.size ≤ 60 := by have := H2.out.len; rw [flat_size] at this; omega
          obtain ⟨ok1, ok2, hb1⟩ := al_ok okT okU sT sU
          obtain ⟨hl1, hl2⟩ := al_len sT sU
          have Ok1 := Lib.hid ok1
          have Ok2 := Lib.hid ok2
          have Hb1l := Lib.hid hb1
          have HsT := Lib.hid sT
          have HsU := Lib.hid sU
          have HoT := Lib.hid okT
          have HoU := Lib.hid okU
          have Hnew := Lib.hid (fun wx => hNew_any 900 wx (by unfold i64; omega))
          rw [show newF 900 = 900 by decide] at Hnew
          have Hp1 := Lib.hid (fun wx (hb : Below w.heap.size w wx) => hputA (A := none) (B := none) (D := none) (c := 0) (d := 0) (e := 0) (r := 900) (l := []) (tr := []) (a := []) (isC_nil8 _ _) (H1.out.below hb) (⟨⟨rfl, Nat.le_refl _, by simp [maxLen], fun h => absurd h (by omega)⟩, by simp⟩ : IsI wx none 0 0 []) (okH_nil (by omega) (by omega)) okT (by omega) (by simp) (by unfold al1 at hl1; omega))
          clear ok1 ok2 hb1 okT okU sT sU Hr3 HR1 HR2 Hb1 Hb2
          go_upto_region 5 with (first
            | (go_at_call 15; go_must (refine (Hnew.out _).mono ?_); rintro e w4 ⟨rfl, hb4⟩; have Hb4 := Lib.hid (Hb3.out.trans (hb4.mono Hb3.out.size)); clear hb4)
            | (go_at_call 19; go_must (refine (Hp1.out _ Hb4.out).mono ?_); rintro e w5 ⟨A5, c5, D5, n5, d5, rfl, hC5, hI5, hb5⟩; have HC5 := Lib.hid hC5; have HI5 := Lib.hid hI5; have Hb5 := Lib.hid (Hb4.out.trans (hb5.mono Hb4.out.size)); clear hC5 hI5 hb5))
          refine wp_world' (Φ := fun X => Below w.heap.size w X ∧ HB X w5.heap.size (al1 T).1 [] 900 ∧ IsI X D5 n5 d5 (al1 T).2.2) ⟨Hb5.out.alloc Hb5.out.size _, HB.box HC5.out (⟨⟨rfl, Nat.le_refl _, by simp [maxLen], fun h => absurd h (by omega)⟩, by simp⟩ : IsI w5 none 0 0 []), HI5.out.below (bas _ _)⟩ ?_
          rintro X ⟨hbX, hB, hI⟩
          obtain ⟨g, hg⟩ : ∃ g, g = w5.heap.size := ⟨_, rfl⟩
          have hgw : w.heap.size ≤ g := by rw [hg]; exact Hb5.out.size
          rw [← hg] at hB
          try rw [← hg]
          clear hg HC5 HI5 Hb5 Hb3 Hb4 Hp1 Hnew
          have hB0 := hB
          have HBx := Lib.hid hB
          obtain ⟨_, _, _, _, hx0, _⟩ := hB0
          have Hx0 := Lib.hid hx0
          clear hx0
          obtain ⟨A1, c1, B1, d1, ⟨hC1, hN1⟩, hY⟩ := hB.open
          obtain ⟨y0, y1, y2, yl⟩ := hY _ (Below.refl _ _)
          have Hp2 := Lib.hid (hputA (B := B1) (d := d1) hC1 (H2.out.below hbX) hI Ok1.out HoU.out (by have := HsU.out; omega) Hb1l.out (by have := hl2; unfold al2 at this; omega))
          have HbX := Lib.hid hbX
          have HN1 := Lib.hid hN1
          have HY := Lib.hid hY
          clear hY hC1 hN1 hI hbX hB
          go_upto_region 6 with (first
            | (go_at_call 19; go_must (refine Hp2.out.mono ?_); rintro e w6 ⟨A6, c6, D6, n6, d6, rfl, hC6, hI6, hb6⟩; obtain ⟨z0, z1, z2, zl⟩ := HY.out _ hb6; have hx6 := (hb6.block g yl).trans Hx0.out; have zf0 := frozen_of hx6 0; have zf1 := frozen_of hx6 1; have zf2 := frozen_of hx6 2; clear hx6; have HC6 := Lib.hid hC6; have HI6 := Lib.hid hI6; have Hb6 := Lib.hid hb6; clear hC6 hI6 hb6))
          have Hw6 := Lib.hid (HbX.out.trans (Hb6.out.mono HbX.out.size))
          refine wp_world' (Φ := fun X2 => Below w.heap.size w X2 ∧ HB X2 g (al2 T U).1 [] 900) ⟨((Hw6.out.setCell hgw _).setCell hgw _).setCell hgw _, (HB.store (HBx.out.below Hb6.out).rb HC6.out (HN1.out.below Hb6.out) Ok2.out).1⟩ ?_
          rintro X2 ⟨hbX2, hB2⟩
          have HbX2 := Lib.hid hbX2
          have HB2 := Lib.hid hB2
          have Hmg := Lib.hid (uMgu_any A B n c m d T U X2 (H1.out.below hbX2) (H2.out.below hbX2) HoT.out HoU.out (by omega))
          clear HbX HN1 HY Hb6 HC6 HI6 z0 z1 z2 zl zf0 zf1 zf2 y0 y1 y2 yl HBx Hx0 Hw6 Hp2 hbX2 hB2
          go_upto_region 7 with (first
            | (go_at_call 37; go_must (refine Hmg.out.mono ?_); rintro e w7 ⟨Rs, ns, cs, s, dd, rfl, hbs, hb7, hmi⟩; have Hbs := Lib.hid hbs; have Hmi := Lib.hid hmi; have Hb7 := Lib.hid (HbX2.out.trans (hb7.mono HbX2.out.size)); have HB7 := Lib.hid (HB2.out.below hb7); clear hbs hmi hb7))
          obtain ⟨A7, c7, B7, d7, ⟨hC7, hN7⟩, hY7⟩ := HB7.out.open
          obtain ⟨y0, y1, y2, yl⟩ := hY7 _ (Below.refl _ _)
          have Huni := Lib.hid (huniA (r := 900) hC7 hN7 Ok2.out (al1 T).2.1 (al2 T U).2.1)
          have hoku := (uni_ok Ok2.out (al1 T).2.1 (al2 T U).2.1).1
          have Hoku := Lib.hid hoku
          clear hC7 hN7 hY7 hoku Hmg HbX2 HB2
          go_upto_region 8 with (first
            | (go_at_call 23; go_must (refine Huni.out.mono ?_); rintro e w8 ⟨A8, c8, B8, d8, rfl, hC8, hN8, hb8⟩; have HC8 := Lib.hid hC8; have HN8 := Lib.hid hN8; have HB8 := Lib.hid (HB7.out.below hb8); have Hb8 := Lib.hid (Hb7.out.trans (hb8.mono Hb7.out.size)); have Hbs8 := Lib.hid (IsG.below keepsBd Hbs.out hb8); clear hC8 hN8 hb8))
          clear y0 y1 y2 yl
          refine wp_world' (Φ := fun X3 => Below w.heap.size w X3 ∧ HB X3 g (al2 T U).1 [] 900 ∧ HB X3 w8.heap.size (uRes (al2 T U).1 [] (al1 T).2.1 (al2 T U).2.1).1 (uRes (al2 T U).1 [] (al1 T).2.1 (al2 T U).2.1).2 900 ∧ IsBs X3 Rs ns cs s) ⟨Hb8.out.alloc Hb8.out.size _, HB8.out.below (bas _ _), HB.box HC8.out HN8.out, IsG.below keepsBd Hbs8.out (bas _ _)⟩ ?_
          rintro X3 ⟨hbX3, hB3, hB3', hbs3⟩
          obtain ⟨g2, hg2⟩ : ∃ g2, g2 = w8.heap.size := ⟨_, rfl⟩
          rw [← hg2] at hB3'
          try rw [← hg2]
          clear hg2
          have HbX3 := Lib.hid hbX3
          have HB3 := Lib.hid hB3
          have HB4 := Lib.hid hB3'
          have Hbs3 := Lib.hid hbs3
          clear hbX3 hB3 hB3' hbs3 Hb7 HB7 Hbs Huni HC8 HN8 HB8 Hb8 Hbs8
          rcases Hmi.out with ⟨hd3, hno⟩ | ⟨S, hS, hd2 | ⟨hd0, hsl, hsz, hlk⟩⟩
          · have hz := al_none HoT.out HoU.out HsT.out HsU.out hno
            subst hd3
            have hzs : (uniZ (al2 T U).1 [] (al1 T).2.1 (al2 T U).2.1).isSome = false := by rw [hz]; rfl
            rw [hzs]
            have HB5 := Lib.hid (show HB X3 g2 (al2 T U).1 [] 900 by have := HB4.out; unfold uRes at this; rw [hz] at this; exact this)
            obtain ⟨A9, c9, B9, d9, ⟨hC9, hN9⟩, hY9⟩ := HB5.out.open
            obtain ⟨Aa, ca, Ba, da, ⟨hCa, hNa⟩, hYa⟩ := HB3.out.open
            have Hs := Lib.hid (sames8 Ok2.out hC9 hN9 hCa hNa)
            obtain ⟨y0, y1, y2, yl⟩ := hY9 _ (Below.refl _ _)
            obtain ⟨z0, z1, z2, zl⟩ := hYa _ (Below.refl _ _)
            clear hz hzs HB4 HB5 HB3 hC9 hN9 hY9 hCa hNa hYa hno
            go_wp2_with (first
              | (go_at_call 14; go_must (refine Hs.out.mono ?_); rintro e we ⟨rfl, hbe⟩))
            go_ret
            exact ⟨rfl, HbX3.out.trans (hbe.mono HbX3.out.size)⟩
          · obtain ⟨L', TR, hz⟩ := al_some HoT.out HoU.out HsT.out HsU.out hS
            have hzs : (uniZ (al2 T U).1 [] (al1 T).2.1 (al2 T U).2.1).isSome = true := by rw [hz]; rfl
            subst hd2
            rw [hzs]
            clear hz hzs
            go_wp2
            go_ret
            exact ⟨rfl, HbX3.out⟩
          · obtain ⟨L', TR, hz⟩ := al_some HoT.out HoU.out HsT.out HsU.out hS
            have hgt := al_get HoT.out HoU.out HsT.out HsU.out hS hlk hz
            have hzs : (uniZ (al2 T U).1 [] (al1 T).2.1 (al2 T U).2.1).isSome = true := by rw [hz]; rfl
            subst hd0
            rw [hzs]
            have HB5 := Lib.hid (show HB X3 g2 L' TR 900 by have := HB4.out; unfold uRes at this; rw [hz] at this; exact this)
            have hok5 : OkH ⟨L', TR, 900⟩ := by have := Hoku.out; unfold uRes at this; rw [hz] at this; exact this
            have Hgt := Lib.hid hgt
            obtain ⟨A9, c9, B9, d9, ⟨hC9, hN9⟩, hY9⟩ := HB5.out.open
            obtain ⟨k1, k2⟩ := hok5.tr_len
            have hg1 := fun wx (hb : Below X3.heap.size X3 wx) (x : Int) => hgetA (B := B9) (d := d9) (hC9.below hb) hok5 x
            have Hg1 := Lib.hid hg1
            have HY9 := Lib.hid hY9
            obtain ⟨y0, y1, y2, yl⟩ := hY9 _ (Below.refl _ _)
            clear hz hzs hgt HB4 hC9 hN9 hY9 hg1 hok5
            go_upto_region 13 with (first
              | (go_at_call 21; go_must (refine (Hg1.out _ (Below.refl _ _) _).mono ?_); rintro e wa ⟨Aa, na, ca, rfl, hCa, hba⟩; have HCa := Lib.hid hCa; have Hba := Lib.hid hba; clear hCa hba))
            obtain ⟨y0', y1', y2', yl'⟩ := HY9.out _ Hba.out
            clear y0 y1 y2 yl
            go_upto_region 14 with (first
              | (go_at_call 21; go_must (refine (Hg1.out _ Hba.out _).mono ?_); rintro e wb ⟨Ab, nb, cb, rfl, hCb, hbb⟩; have HCb := Lib.hid hCb; have HCa2 := Lib.hid (HCa.out.below hbb); have Hbb := Lib.hid (Hba.out.trans (hbb.mono Hba.out.size)); clear hCb hbb))
            clear y0' y1' y2' yl' Hg1 HY9 HCa
            have Hap := Lib.hid (happA (s := s) (IsG.below keepsBd Hbs3.out Hbb.out) (H1.out.below (HbX3.out.trans (Hbb.out.mono HbX3.out.size))) (by have := Hbs3.out.len; omega) (by omega) (fun p hp => by have := hsz p hp; omega))
            have HbW := Lib.hid (HbX3.out.trans (Hbb.out.mono HbX3.out.size))
            clear hsz hlk hsl
            go_upto_region 15 with (first
              | (go_at_call 36; go_must (refine Hap.out.mono ?_); rintro e wc ⟨Ac, nc, cc, rfl, hCc, hbc⟩; have HCc := Lib.hid hCc; have HCa3 := Lib.hid (HCa2.out.below hbc); have HCb3 := Lib.hid (HCb.out.below hbc); have Hbc := Lib.hid (HbW.out.trans (hbc.mono HbW.out.size)); clear hCc hbc))
            clear Hap HCa2 HCb HbW
            obtain ⟨q1, q2, q3⟩ := Hgt.out
            replace q1 : getZ L' ((putA (al1 T).1 U (al1 T).2.2).2.1 : Int) = getZ L' ((putA [] T []).2.1 : Int) := q1
            replace q2 : (getZ L' ((putA [] T []).2.1 : Int)).isSome = (applyB s T.flat).isSome := q2
            replace q3 : ∀ x y, getZ L' ((putA [] T []).2.1 : Int) = some x → applyB s T.flat = some y → numberF x = numberF y := q3
            rw [q1] at HCb3
            rw [q1, q2]
            have Q2 := Lib.hid q2
            have Q3 := Lib.hid q3
            clear q1 q2 q3 Hgt
            cases hap : applyB s T.flat with
            | none =>
              simp only [Option.isSome_none]
              go_wp2
              go_ret
              exact ⟨rfl, Hbc.out⟩
            | some y =>
              have hq2 := Q2.out
              rw [hap] at hq2 HCc
              simp only [Option.isSome_some, Option.getD_some] at hq2 HCc ⊢
              obtain ⟨x, hx⟩ := Option.isSome_iff_exists.1 hq2
              have hnum := Q3.out x y hx hap
              rw [hx] at HCa3 HCb3
              simp only [Option.getD_some] at HCa3 HCb3
              have lx := getZ_lenA hx
              have ly := applyB_len hap
              have la := HCa3.out.len
              have lb := HCb3.out.len
              have lc := HCc.out.len
              have hna : na ≤ 100000 := by omega
              have hnb : nb ≤ 100000 := by omega
              have hnc : nc ≤ 100000 := by omega
              have Hsm := Lib.hid ((rSame_any Aa Ab na nb ca cb x x wc HCa3.out HCb3.out hna hnb).mono fun _ _ h => h.v)
              have Hva := Lib.hid (fun wx (hb : Below wc.heap.size wc wx) => uVariant_any Aa Ac na ca nc cc x y wx (HCa3.out.below hb) (HCc.out.below hb) hna hnc)
              rw [(sameC_iff x x).2 rfl] at Hsm
              rw [(sameC_iff (numberF x) (numberF y)).2 hnum] at Hva
              have hwc := Hbc.out.size
              clear lx ly la lb lc hna hnb hnc hnum hx hap hq2 Q2 Q3 HCa3 HCb3 HCc Hbb Hba
              go_wp2_with (first
                | (go_at_call 28; go_must (refine Hsm.out.mono ?_); rintro e wd ⟨rfl, hbd⟩; have Hbd := Lib.hid hbd; clear hbd)
                | (go_at_call 38; go_must (refine (Hva.out _ Hbd.out).mono ?_); rintro e we ⟨rfl, hbe⟩; have Hbe := Lib.hid (Hbc.out.trans ((Hbd.out.trans (hbe.mono Hbd.out.size)).mono hwc)); clear hbe))
              go_ret
              exact ⟨rfl, Hbe.out⟩
    · go_wp2
      go_ret
      exact ⟨rfl, Hb1.out⟩
  · go_wp2
    go_ret
    exact ⟨rfl, Hb1.out⟩
end Go.Proofs.Ytlndjooddkjnoaa
