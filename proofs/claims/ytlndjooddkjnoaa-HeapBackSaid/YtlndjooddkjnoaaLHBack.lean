/- The walk of the law HeapBack. -/
import Derived.WalkMore
import Derived.Test.YtlndjooddkjnoaaLHB0
import Derived.Test.YtlndjooddkjnoaaHW2
import Derived.Test.YtlndjooddkjnoaaPlain3
set_option linter.unusedVariables false
set_option linter.unusedSimpArgs false
namespace Go.Proofs.Ytlndjooddkjnoaa
open Go.RowKit
set_option maxRecDepth 100000 in
set_option maxHeartbeats 8000000 in
theorem heapBack_walk (A : Option Addr) (n c : Nat) (l : List C) (B : Option Addr) (m d : Nat) (tr : List Int) (r : Int) (D : Option Addr) (p e : Nat) (at_ : List Int) (Aa : Option Addr) (na ca : Nat) (t : List C) (a1 a2 : Int) (w : World)
    (h : IsC w A n c l) (hT : IsI w B m d tr) (hr : i64 r) (hD : IsI w D p e at_) (ht : IsC w Aa na ca t) (ia1 : i64 a1) (ia2 : i64 a2) :
    Calls Try.prog 4 #[.agg #[.slice A n c, .slice B m d, .int .i64 r], .slice D p e, .agg #[.slice Aa na ca, .int .i64 a1, .int .i64 a2]] w (RetV w (.bool true)) := by
  cases hmay : mayH l tr r
  · go_enter Try.func4, Try.ntmps4
    go_upto_region 1 with fail
    refine wp_world' (Φ := fun X => Below w.heap.size w X ∧ HB X w.heap.size l tr r ∧ OB X (w.heap.size + 1) t a1 a2) ⟨(bas _ _).alloc (by simp) _, (HB.box h hT).below (bas _ _), by have := OB.box (a := a1) (b := a2) (ht.below (bas w (.cells #[.slice A n c, .slice B m d, .int .i64 r] 25))); simpa using this⟩ ?_
    rintro X ⟨hbX, hB, hO⟩
    obtain ⟨g1, hg1⟩ : ∃ g1, g1 = w.heap.size + 1 := ⟨_, rfl⟩
    obtain ⟨g0, hg0⟩ : ∃ g0, g0 = w.heap.size := ⟨_, rfl⟩
    rw [← hg1] at hO
    rw [← hg0] at hB
    try rw [← hg1]
    try rw [← hg0]
    clear hg0 hg1
    go_wp2_with fail
    refine (head8_any _).mono ?_
    rintro e w1 ⟨rfl, hbn⟩
    replace hB := hB.below hbn
    replace hO := hO.below hbn
    replace hbX := hbX.trans (hbn.mono hbX.size)
    clear hbn
    generalize w1 = X at *
    obtain ⟨A1, c1, B1, d1, ⟨hC1, hN1⟩, hY⟩ := hB.open
    obtain ⟨Aq, cq, hCq, hYq⟩ := hO.open
    have hm := may8 (r := r) hC1 hN1
    obtain ⟨y0, y1, y2, yl⟩ := hY _ (Below.refl _ _)
    obtain ⟨z0, z1, z2, zl⟩ := hYq _ (Below.refl _ _)
    have HY := Lib.hid hY
    have HYq := Lib.hid hYq
    have HCq := Lib.hid hCq
    rw [hmay] at hm
    have Hm := Lib.hid hm
    clear hY hC1 hN1 hYq hCq hm
    go_wp2_with fail
    refine Hm.out.mono ?_
    rintro e2 w2 ⟨rfl, hbn⟩
    clear y0 y1 y2 yl z0 z1 z2 zl
    obtain ⟨z0, z1, z2, zl⟩ := HYq.out _ hbn
    go_wp2
    refine bodyPost_ret (v := .bool true) (by simp [results, Try.results4, go_sem, *]) rfl ?_
    exact ⟨rfl, hbX.trans (hbn.mono hbX.size)⟩
  obtain ⟨hl120, _, hok⟩ := mayH_iff hmay
  have Hok := Lib.hid hok
  clear hok
  by_cases hk : 210 < t.length
  · have hkz : (210 : Int) < (t.length : Int) := by omega
    go_enter Try.func4, Try.ntmps4
    go_upto_region 1 with fail
    refine wp_world' (Φ := fun X => Below w.heap.size w X ∧ HB X w.heap.size l tr r ∧ OB X (w.heap.size + 1) t a1 a2) ⟨(bas _ _).alloc (by simp) _, (HB.box h hT).below (bas _ _), by have := OB.box (a := a1) (b := a2) (ht.below (bas w (.cells #[.slice A n c, .slice B m d, .int .i64 r] 25))); simpa using this⟩ ?_
    rintro X ⟨hbX, hB, hO⟩
    obtain ⟨g1, hg1⟩ : ∃ g1, g1 = w.heap.size + 1 := ⟨_, rfl⟩
    obtain ⟨g0, hg0⟩ : ∃ g0, g0 = w.heap.size := ⟨_, rfl⟩
    rw [← hg1] at hO
    rw [← hg0] at hB
    try rw [← hg1]
    try rw [← hg0]
    clear hg0 hg1
    go_wp2_with fail
    refine (head8_any _).mono ?_
    rintro e w1 ⟨rfl, hbn⟩
    replace hB := hB.below hbn
    replace hO := hO.below hbn
    replace hbX := hbX.trans (hbn.mono hbX.size)
    clear hbn
    generalize w1 = X at *
    obtain ⟨A1, c1, B1, d1, ⟨hC1, hN1⟩, hY⟩ := hB.open
    obtain ⟨Aq, cq, hCq, hYq⟩ := hO.open
    have hm := may8 (r := r) hC1 hN1
    obtain ⟨y0, y1, y2, yl⟩ := hY _ (Below.refl _ _)
    obtain ⟨z0, z1, z2, zl⟩ := hYq _ (Below.refl _ _)
    have HY := Lib.hid hY
    have HYq := Lib.hid hYq
    have HCq := Lib.hid hCq
    rw [hmay] at hm
    have Hm := Lib.hid hm
    clear hY hC1 hN1 hYq hCq hm
    go_wp2_with fail
    refine Hm.out.mono ?_
    rintro e2 w2 ⟨rfl, hbn⟩
    clear y0 y1 y2 yl z0 z1 z2 zl
    obtain ⟨z0, z1, z2, zl⟩ := HYq.out _ hbn
    go_wp2
    refine bodyPost_ret (v := .bool true) (by simp [results, Try.results4, go_sem, *]) rfl ?_
    exact ⟨rfl, hbX.trans (hbn.mono hbX.size)⟩
  have hkz : ¬ (210 : Int) < (t.length : Int) := by omega
  cases hrt : rightB t
  · go_enter Try.func4, Try.ntmps4
    go_upto_region 1 with fail
    refine wp_world' (Φ := fun X => Below w.heap.size w X ∧ HB X w.heap.size l tr r ∧ OB X (w.heap.size + 1) t a1 a2) ⟨(bas _ _).alloc (by simp) _, (HB.box h hT).below (bas _ _), by have := OB.box (a := a1) (b := a2) (ht.below (bas w (.cells #[.slice A n c, .slice B m d, .int .i64 r] 25))); simpa using this⟩ ?_
    rintro X ⟨hbX, hB, hO⟩
    obtain ⟨g1, hg1⟩ : ∃ g1, g1 = w.heap.size + 1 := ⟨_, rfl⟩
    obtain ⟨g0, hg0⟩ : ∃ g0, g0 = w.heap.size := ⟨_, rfl⟩
    rw [← hg1] at hO
    rw [← hg0] at hB
    try rw [← hg1]
    try rw [← hg0]
    clear hg0 hg1
    go_wp2_with fail
    refine (head8_any _).mono ?_
    rintro e w1 ⟨rfl, hbn⟩
    replace hB := hB.below hbn
    replace hO := hO.below hbn
    replace hbX := hbX.trans (hbn.mono hbX.size)
    clear hbn
    generalize w1 = X at *
    obtain ⟨A1, c1, B1, d1, ⟨hC1, hN1⟩, hY⟩ := hB.open
    obtain ⟨Aq, cq, hCq, hYq⟩ := hO.open
    have hm := may8 (r := r) hC1 hN1
    obtain ⟨y0, y1, y2, yl⟩ := hY _ (Below.refl _ _)
    obtain ⟨z0, z1, z2, zl⟩ := hYq _ (Below.refl _ _)
    have HY := Lib.hid hY
    have HYq := Lib.hid hYq
    have HCq := Lib.hid hCq
    rw [hmay] at hm
    have Hm := Lib.hid hm
    clear hY hC1 hN1 hYq hCq hm
    have Hri := Lib.hid (fun wx (hb : Below X.heap.size X wx) => rRight_any Aq t.length cq t wx (HCq.out.below hb) (by omega))
    rw [hrt] at Hri
    go_wp2_with fail
    refine Hm.out.mono ?_
    rintro e2 w2 ⟨rfl, hbn⟩
    clear y0 y1 y2 yl z0 z1 z2 zl
    obtain ⟨z0, z1, z2, zl⟩ := HYq.out _ hbn
    go_wp2_with fail
    refine (Hri.out _ hbn).mono ?_
    rintro e3 w3 ⟨rfl, hbm⟩
    go_wp2
    refine bodyPost_ret (v := .bool true) (by simp [results, Try.results4, go_sem, *]) rfl ?_
    exact ⟨rfl, hbX.trans ((hbn.trans (hbm.mono hbn.size)).mono hbX.size)⟩
  have HD := Lib.hid hD
  go_enter Try.func4, Try.ntmps4
  go_upto_region 1 with fail
  refine wp_world' (Φ := fun X => Below w.heap.size w X ∧ HB X w.heap.size l tr r ∧ OB X (w.heap.size + 1) t a1 a2) ⟨(bas _ _).alloc (by simp) _, (HB.box h hT).below (bas _ _), by have := OB.box (a := a1) (b := a2) (ht.below (bas w (.cells #[.slice A n c, .slice B m d, .int .i64 r] 25))); simpa using this⟩ ?_
  rintro X ⟨hbX, hB, hO⟩
  obtain ⟨g1, hg1⟩ : ∃ g1, g1 = w.heap.size + 1 := ⟨_, rfl⟩
  obtain ⟨g0, hg0⟩ : ∃ g0, g0 = w.heap.size := ⟨_, rfl⟩
  rw [← hg1] at hO
  rw [← hg0] at hB
  try rw [← hg1]
  try rw [← hg0]
  clear hg0 hg1
  go_wp2_with fail
  refine (head8_any _).mono ?_
  rintro e w1 ⟨rfl, hbn⟩
  replace hB := hB.below hbn
  replace hO := hO.below hbn
  replace hbX := hbX.trans (hbn.mono hbX.size)
  clear hbn
  generalize w1 = X at *
  obtain ⟨A1, c1, B1, d1, ⟨hC1, hN1⟩, hY⟩ := hB.open
  obtain ⟨Aq, cq, hCq, hYq⟩ := hO.open
  have hm := may8 (r := r) hC1 hN1
  obtain ⟨y0, y1, y2, yl⟩ := hY _ (Below.refl _ _)
  obtain ⟨z0, z1, z2, zl⟩ := hYq _ (Below.refl _ _)
  have HY := Lib.hid hY
  have HYq := Lib.hid hYq
  have HCq := Lib.hid hCq
  rw [hmay] at hm
  have Hm := Lib.hid hm
  clear hY hC1 hN1 hYq hCq hm
  have Hri := Lib.hid (fun wx (hb : Below X.heap.size X wx) => rRight_any Aq t.length cq t wx (HCq.out.below hb) (by omega))
  rw [hrt] at Hri
  go_upto_region 4 with (first
    | (go_at_call 31; go_must (refine Hm.out.mono ?_); rintro e2 w2 ⟨rfl, hbn⟩; clear z0 z1 z2 zl; obtain ⟨z0, z1, z2, zl⟩ := HYq.out _ hbn)
    | (go_at_call 17; go_must (refine (Hri.out _ hbn).mono ?_); rintro e3 w3 ⟨rfl, hbm⟩))
  replace hB := hB.below (hbn.trans (hbm.mono hbn.size))
  replace hO := hO.below (hbn.trans (hbm.mono hbn.size))
  replace hbX := hbX.trans ((hbn.trans (hbm.mono hbn.size)).mono hbX.size)
  clear y0 y1 y2 yl z0 z1 z2 zl HY HYq HCq Hri Hm hbn hbm
  generalize w3 = X at *
  obtain ⟨T, hTok, hTf, hTs⟩ := right_tree hrt
  subst hTf
  go_cut [8] from 43 to 45 (fun v8 wx => ∃ (D2 : Option Addr) (p2 f2 : Nat), v8 = .slice D2 p2 f2 ∧ IsI wx D2 p2 f2 (fitsF l.length at_) ∧ Below X.heap.size X wx)
  case first =>
    obtain ⟨A1, c1, B1, d1, ⟨hC1, hN1⟩, hY⟩ := hB.open
    obtain ⟨y0, y1, y2, yl⟩ := hY _ (Below.refl _ _)
    clear hY hC1 hN1 hB hO
    go_wp2_with (first | (go_at_call 18; go_must (refine (fits_any A1 B1 D l.length c1 tr.length d1 p e r at_ _ (by omega) (HD.out.below hbX)).mono ?_); rintro e4 w4 ⟨D2, p2, f2, rfl, hD2, hbn⟩))
    go_meet
    exact ⟨D2, p2, f2, rfl, hD2, hbn⟩
  case rest =>
    obtain ⟨D2, p2, f2, rfl, hD2, hbn⟩ := hcut
    replace hB := hB.below hbn
    replace hO := hO.below hbn
    replace hbX := hbX.trans (hbn.mono hbX.size)
    clear hbn
    generalize wc = X at *
    have hF20 := fitsF_len l.length at_
    have hFat := atL_fits l.length at_
    generalize fitsF l.length at_ = F at *
    have HFat := Lib.hid hFat
    have hp2 := hD2.len
    clear hFat HD hD
    go_upto_region 5 with fail
    go_cut [9, 10, 11, 12] from 46 to 55 (fun v9 v10 v11 v12 wx => ∃ (gx : Nat) (D1 : Option Addr) (p1 e1 : Nat) (q1 x1 : Int), v9 = .pointer (some ⟨gx, 0, none⟩) ∧ v10 = .int .i64 q1 ∧ v11 = .slice D1 p1 e1 ∧ v12 = .int .i64 x1 ∧ HB wx gx (pRes l T F r) tr r ∧ Below X.heap.size X wx ∧ ((((putA l T F).1.length : Int) ≤ r ∧ x1 = 0 ∧ q1 = ((putA l T F).2.1 : Nat) ∧ IsI wx D1 p1 e1 (putA l T F).2.2) ∨ (¬ ((putA l T F).1.length : Int) ≤ r ∧ x1 = 80 ∧ q1 = 0 ∧ D1 = none ∧ p1 = 0 ∧ e1 = 0)))
    case first =>
      obtain ⟨A1, c1, B1, d1, ⟨hC1, hN1⟩, hY⟩ := hB.open
      obtain ⟨Aq, cq, hCq, hYq⟩ := hO.open
      obtain ⟨y0, y1, y2, yl⟩ := hY _ (Below.refl _ _)
      obtain ⟨z0, z1, z2, zl⟩ := hYq _ (Below.refl _ _)
      have HN1 := Lib.hid hN1
      have Hput := Lib.hid (put8 (B := B1) (d := d1) (tr := tr) (r := r) hC1 hCq hD2 Hok.out hTok hTs (by omega))
      clear hY hYq hC1 hN1 hCq hD2 hB hO
      generalize pRes l T F r = L at *
      generalize putA l T F = pt at *
      go_wp2_with (first | (go_at_call 19; go_must (refine Hput.out.mono ?_); rintro e4 w4 ⟨A5, c5, D5, n5, d5, q5, x5, rfl, hC5, hbn, hor⟩))
      go_meet
      refine ⟨w4.heap.size, D5, n5, d5, q5, x5, rfl, rfl, rfl, rfl, ⟨A5, c5, B1, d1, alloc_at rfl, hC5.below (bas _ _), (HN1.out.below hbn).below (bas _ _)⟩, hbn.alloc hbn.size _, ?_⟩
      rcases hor with ⟨o1, o2, o3, o4, _⟩ | o
      · exact .inl ⟨o1, o2, o3, o4.below (bas _ _)⟩
      · exact .inr o
    case rest =>
      obtain ⟨gx, D1, p1, e1, q1, x1, rfl, rfl, rfl, rfl, hBx, hbn, hor⟩ := hcut
      replace hB := hB.below hbn
      replace hO := hO.below hbn
      replace hbX := hbX.trans (hbn.mono hbX.size)
      replace hD2 := hD2.below hbn
      clear hbn
      generalize wc = X at *
      rcases hor with ⟨o1, o2, o3, o4⟩ | ⟨o1, o2, o3, o4, o5, o6⟩
      · subst o2
        have hpr : pRes l T F r = (putA l T F).1 := by unfold pRes; rw [if_pos o1]
        have hr2 := Hok.out.room2
        simp only at hr2
        have Hpok := Lib.hid (put_ok Hok.out.good hTok HFat.out.ok (by simp only; omega))
        obtain ⟨ok3, hpre, hatl, hPlt⟩ := put_okH Hok.out hTok HFat.out o1
        have hbl := putA_row8 hTok l (a := F) (by omega)
        have hbge := putA_ge l T F
        have Hplace := Lib.hid (fun n hn => putA_place l T F n hn)
        have Ok3 := Lib.hid ok3
        have Hpre := Lib.hid hpre
        have Hatl := Lib.hid hatl
        rw [hpr] at hBx
        clear ok3 hpre hatl hpr
        generalize putA l T F = q at *
        obtain ⟨L, P, b⟩ := q
        simp only at o1 o3 o4 hBx Hpok Ok3 Hpre Hatl hPlt hbl hbge Hplace
        subst o3
        have hLl := Ok3.out.tr_len
        have hpe := o4.len
        have Hle := Lib.hid Hpre.out.le
        go_upto_region 8 with fail
        go_cut [106] from 77 to 105 (fun v wx => v = .bool false ∧ Below X.heap.size X wx)
        case first =>
          obtain ⟨A1, c1, B1, d1, ⟨hC1, hN1⟩, hY1⟩ := hB.open
          obtain ⟨A2, c2, B2, d2, ⟨hC2, hN2⟩, hY2⟩ := hBx.open
          have hS : ∀ w', Below X.heap.size X w' → w'.cell? ⟨gx, 0, none⟩ = some (.slice A2 L.length c2) ∧ w'.cell? ⟨gx, 1, none⟩ = some (.slice B2 tr.length d2) ∧ w'.cell? ⟨gx, 2, none⟩ = some (.int .i64 r) ∧ w'.cell? ⟨g0, 0, none⟩ = some (.slice A1 l.length c1) ∧ w'.cell? ⟨g0, 1, none⟩ = some (.slice B1 tr.length d1) ∧ w'.cell? ⟨g0, 2, none⟩ = some (.int .i64 r) := fun w' hb => by
            obtain ⟨p0, p1, p2, _⟩ := hY2 w' hb
            obtain ⟨q0, q1, q2, _⟩ := hY1 w' hb
            exact ⟨p0, p1, p2, q0, q1, q2⟩
          have hcap := hC2.sl.hcap
          have hmax := hC2.sl.hmax
          unfold maxLen at hmax
          have htake : L.take l.length = l := by
            obtain ⟨x, hx, _⟩ := Hpok.out.more
            rw [hx]; simp
          have Hs := Lib.hid (fun wx (hb : Below X.heap.size X wx) => sames8 Hok.out (by have := (hC2.take Hle.out).below hb; rw [htake] at this; exact this) (hN2.below hb) (hC1.below hb) (hN1.below hb))
          have hle := Hle.out
          have hlc : l.length ≤ c2 := by omega
          have k1 : decide (L.length < l.length) = false := by simp; omega
          have k2 : ¬ L.length < l.length := by omega
          have k3 : decide (p1 < p2) = false := by simp; omega
          have k4 : ¬ p1 < p2 := by omega
          refine wp_region_held_drew (S := fun w' => w'.cell? ⟨gx, 0, none⟩ = some (.slice A2 L.length c2) ∧ w'.cell? ⟨gx, 1, none⟩ = some (.slice B2 tr.length d2) ∧ w'.cell? ⟨gx, 2, none⟩ = some (.int .i64 r) ∧ w'.cell? ⟨g0, 0, none⟩ = some (.slice A1 l.length c1) ∧ w'.cell? ⟨g0, 1, none⟩ = some (.slice B1 tr.length d1) ∧ w'.cell? ⟨g0, 2, none⟩ = some (.int .i64 r)) (by kernel_rfl) ?gs8 ?gr8
          case gs8 => exact hS _ (Below.refl _ _).drew
          case gr8 =>
            intro hHeld
            have HS := Lib.hid hS
            have HV : Hid (Below X.heap.size X X.drew) := Lib.hid ((Below.refl _ _).drew)
            clear hS hY1 hY2 hC1 hN1 hC2 hN2 hB hBx hO hD2 o4 hbX htake
            generalize X.drew = V at *

            refine wpAnyH_take (i := 0) (oi := ?oi0u1) (v := ?v0u1) ?hi0u1 (by kernel_rfl) (by kernel_rfl) (by kernel_rfl) ?hQ0u1 (Or.inl ⟨?hw0u1, ?hy0u1⟩) hHeld ?rest0u1
            case hi0u1 => (simp only [List.getElem?_toArray, List.getElem?_cons_succ, List.getElem?_cons_zero]; exact rfl)
            case hQ0u1 => exact fun _ _ _ h => h
            case hw0u1 => rfl
            case hy0u1 => (intro w hSw; (try dsimp only at hSw); go_simp <;> with_reducible rfl)
            try simp only [Act.put, List.setIfInBounds_toArray, List.set_cons_zero, List.set_cons_succ]
            refine wpAnyH_take (i := 1) (oi := ?oi1u2) (v := ?v1u2) ?hi1u2 (by kernel_rfl) (by kernel_rfl) (by kernel_rfl) ?hQ1u2 (Or.inl ⟨?hw1u2, ?hy1u2⟩) hHeld ?rest1u2
            case hi1u2 => (simp only [List.getElem?_toArray, List.getElem?_cons_succ, List.getElem?_cons_zero]; exact rfl)
            case hQ1u2 => exact fun _ _ _ h => h
            case hw1u2 => rfl
            case hy1u2 => (intro w hSw; (try dsimp only at hSw); go_simp <;> with_reducible rfl)
            try simp only [Act.put, List.setIfInBounds_toArray, List.set_cons_zero, List.set_cons_succ]
            refine wpAnyH_take (i := 2) (oi := ?oi2u3) (v := ?v2u3) ?hi2u3 (by kernel_rfl) (by kernel_rfl) (by kernel_rfl) ?hQ2u3 (Or.inl ⟨?hw2u3, ?hy2u3⟩) hHeld ?rest2u3
            case hi2u3 => (simp only [List.getElem?_toArray, List.getElem?_cons_succ, List.getElem?_cons_zero]; exact rfl)
            case hQ2u3 => exact fun _ _ _ h => h
            case hw2u3 => rfl
            case hy2u3 => (intro w hSw; (try dsimp only at hSw); go_simp <;> with_reducible rfl)
            try simp only [Act.put, List.setIfInBounds_toArray, List.set_cons_zero, List.set_cons_succ]
            refine wpAnyH_take (i := 3) (oi := ?oi3u4) (v := ?v3u4) ?hi3u4 (by kernel_rfl) (by kernel_rfl) (by kernel_rfl) ?hQ3u4 (Or.inl ⟨?hw3u4, ?hy3u4⟩) hHeld ?rest3u4
            case hi3u4 => (simp only [List.getElem?_toArray, List.getElem?_cons_succ, List.getElem?_cons_zero]; exact rfl)
            case hQ3u4 => exact fun _ _ _ h => h
            case hw3u4 => rfl
            case hy3u4 => (intro w hSw; (try dsimp only at hSw); go_simp <;> with_reducible rfl)
            try simp only [Act.put, List.setIfInBounds_toArray, List.set_cons_zero, List.set_cons_succ]
            refine wpAnyH_take (i := 4) (oi := ?oi4u5) (v := ?v4u5) ?hi4u5 (by kernel_rfl) (by kernel_rfl) (by kernel_rfl) ?hQ4u5 (Or.inl ⟨?hw4u5, ?hy4u5⟩) hHeld ?rest4u5
            case hi4u5 => (simp only [List.getElem?_toArray, List.getElem?_cons_succ, List.getElem?_cons_zero]; exact rfl)
            case hQ4u5 => exact fun _ _ _ h => h
            case hw4u5 => rfl
            case hy4u5 => (intro w hSw; (try dsimp only at hSw); go_simp <;> with_reducible rfl)
            try simp only [Act.put, List.setIfInBounds_toArray, List.set_cons_zero, List.set_cons_succ]
            refine wpAnyH_take (i := 5) (oi := ?oi5u6) (v := ?v5u6) ?hi5u6 (by kernel_rfl) (by kernel_rfl) (by kernel_rfl) ?hQ5u6 (Or.inl ⟨?hw5u6, ?hy5u6⟩) hHeld ?rest5u6
            case hi5u6 => (simp only [List.getElem?_toArray, List.getElem?_cons_succ, List.getElem?_cons_zero]; exact rfl)
            case hQ5u6 => exact fun _ _ _ h => h
            case hw5u6 => rfl
            case hy5u6 => (intro w hSw; (try dsimp only at hSw); go_simp <;> with_reducible rfl)
            try simp only [Act.put, List.setIfInBounds_toArray, List.set_cons_zero, List.set_cons_succ]
            refine wpAnyH_take (i := 6) (oi := ?oi6u7) (v := ?v6u7) ?hi6u7 (by kernel_rfl) (by kernel_rfl) (by kernel_rfl) ?hQ6u7 (Or.inl ⟨?hw6u7, ?hy6u7⟩) hHeld ?rest6u7
            case hi6u7 => (simp only [List.getElem?_toArray, List.getElem?_cons_succ, List.getElem?_cons_zero]; exact rfl)
            case hQ6u7 => exact fun _ _ _ h => h
            case hw6u7 => rfl
            case hy6u7 => (intro w hSw; (try dsimp only at hSw); go_simp <;> with_reducible rfl)
            try simp only [Act.put, List.setIfInBounds_toArray, List.set_cons_zero, List.set_cons_succ]
            refine wpAnyH_take (i := 7) (oi := ?oi7u8) (v := ?v7u8) ?hi7u8 (by kernel_rfl) (by kernel_rfl) (by kernel_rfl) ?hQ7u8 (Or.inl ⟨?hw7u8, ?hy7u8⟩) hHeld ?rest7u8
            case hi7u8 => (simp only [List.getElem?_toArray, List.getElem?_cons_succ, List.getElem?_cons_zero]; exact rfl)
            case hQ7u8 => exact fun _ _ _ h => h
            case hw7u8 => rfl
            case hy7u8 => (intro w hSw; (try dsimp only at hSw); go_simp <;> with_reducible rfl)
            try simp only [Act.put, List.setIfInBounds_toArray, List.set_cons_zero, List.set_cons_succ]
            refine wpAnyH_take (i := 8) (oi := ?oi8u9) (v := ?v8u9) ?hi8u9 (by kernel_rfl) (by kernel_rfl) (by kernel_rfl) ?hQ8u9 (Or.inl ⟨?hw8u9, ?hy8u9⟩) hHeld ?rest8u9
            case hi8u9 => (simp only [List.getElem?_toArray, List.getElem?_cons_succ, List.getElem?_cons_zero]; exact rfl)
            case hQ8u9 => exact fun _ _ _ h => h
            case hw8u9 => rfl
            case hy8u9 => (intro w hSw; (try dsimp only at hSw); go_simp <;> with_reducible rfl)
            try simp only [Act.put, List.setIfInBounds_toArray, List.set_cons_zero, List.set_cons_succ]
            refine wpAnyH_take (i := 9) (oi := ?oi9u10) (v := ?v9u10) ?hi9u10 (by kernel_rfl) (by kernel_rfl) (by kernel_rfl) ?hQ9u10 (Or.inl ⟨?hw9u10, ?hy9u10⟩) hHeld ?rest9u10
            case hi9u10 => (simp only [List.getElem?_toArray, List.getElem?_cons_succ, List.getElem?_cons_zero]; exact rfl)
            case hQ9u10 => exact fun _ _ _ h => h
            case hw9u10 => rfl
            case hy9u10 => (intro w hSw; (try dsimp only at hSw); go_simp <;> with_reducible rfl)
            try simp only [Act.put, List.setIfInBounds_toArray, List.set_cons_zero, List.set_cons_succ]
            refine wpAnyH_take (i := 10) (oi := ?oi10u11) (v := ?v10u11) ?hi10u11 (by kernel_rfl) (by kernel_rfl) (by kernel_rfl) ?hQ10u11 (Or.inl ⟨?hw10u11, ?hy10u11⟩) hHeld ?rest10u11
            case hi10u11 => (simp only [List.getElem?_toArray, List.getElem?_cons_succ, List.getElem?_cons_zero]; exact rfl)
            case hQ10u11 => exact fun _ _ _ h => h
            case hw10u11 => rfl
            case hy10u11 => (intro w hSw; (try dsimp only at hSw); go_simp <;> with_reducible rfl)
            try simp only [Act.put, List.setIfInBounds_toArray, List.set_cons_zero, List.set_cons_succ]
            refine wpAnyH_take (i := 11) (oi := ?oi11u12) (v := ?v11u12) ?hi11u12 (by kernel_rfl) (by kernel_rfl) (by kernel_rfl) ?hQ11u12 (Or.inl ⟨?hw11u12, ?hy11u12⟩) hHeld ?rest11u12
            case hi11u12 => (simp only [List.getElem?_toArray, List.getElem?_cons_succ, List.getElem?_cons_zero]; exact rfl)
            case hQ11u12 => exact fun _ _ _ h => h
            case hw11u12 => rfl
            case hy11u12 => (intro w hSw; (try dsimp only at hSw); go_simp <;> with_reducible rfl)
            try simp only [Act.put, List.setIfInBounds_toArray, List.set_cons_zero, List.set_cons_succ]
            refine wpAnyH_take (i := 12) (oi := ?oi12u13) (v := ?v12u13) ?hi12u13 (by kernel_rfl) (by kernel_rfl) (by kernel_rfl) ?hQ12u13 (Or.inl ⟨?hw12u13, ?hy12u13⟩) hHeld ?rest12u13
            case hi12u13 => (simp only [List.getElem?_toArray, List.getElem?_cons_succ, List.getElem?_cons_zero]; exact rfl)
            case hQ12u13 => exact fun _ _ _ h => h
            case hw12u13 => rfl
            case hy12u13 => (intro w hSw; (try dsimp only at hSw); go_simp <;> with_reducible rfl)
            try simp only [Act.put, List.setIfInBounds_toArray, List.set_cons_zero, List.set_cons_succ]
            refine wpAnyH_take (i := 13) (oi := ?oi13u14) (v := ?v13u14) ?hi13u14 (by kernel_rfl) (by kernel_rfl) (by kernel_rfl) ?hQ13u14 (Or.inl ⟨?hw13u14, ?hy13u14⟩) hHeld ?rest13u14
            case hi13u14 => (simp only [List.getElem?_toArray, List.getElem?_cons_succ, List.getElem?_cons_zero]; exact rfl)
            case hQ13u14 => exact fun _ _ _ h => h
            case hw13u14 => rfl
            case hy13u14 => (intro w hSw; (try dsimp only at hSw); go_simp <;> with_reducible rfl)
            try simp only [Act.put, List.setIfInBounds_toArray, List.set_cons_zero, List.set_cons_succ]
            refine wpAnyH_take (i := 14) (oi := ?oi14u15) (v := ?v14u15) ?hi14u15 (by kernel_rfl) (by kernel_rfl) (by kernel_rfl) ?hQ14u15 (Or.inl ⟨?hw14u15, ?hy14u15⟩) hHeld ?rest14u15
            case hi14u15 => (simp only [List.getElem?_toArray, List.getElem?_cons_succ, List.getElem?_cons_zero]; exact rfl)
            case hQ14u15 => exact fun _ _ _ h => h
            case hw14u15 => rfl
            case hy14u15 => (intro w hSw; (try dsimp only at hSw); go_simp <;> with_reducible rfl)
            try simp only [Act.put, List.setIfInBounds_toArray, List.set_cons_zero, List.set_cons_succ]
            refine wpAnyH_take (i := 15) (oi := ?oi15u16) (v := ?v15u16) ?hi15u16 (by kernel_rfl) (by kernel_rfl) (by kernel_rfl) ?hQ15u16 (Or.inl ⟨?hw15u16, ?hy15u16⟩) hHeld ?rest15u16
            case hi15u16 => (simp only [List.getElem?_toArray, List.getElem?_cons_succ, List.getElem?_cons_zero]; exact rfl)
            case hQ15u16 => exact fun _ _ _ h => h
            case hw15u16 => rfl
            case hy15u16 => (intro w hSw; (try dsimp only at hSw); go_simp <;> with_reducible rfl)
            try simp only [Act.put, List.setIfInBounds_toArray, List.set_cons_zero, List.set_cons_succ]
            refine wpAnyH_take (i := 16) (oi := ?oi16u17) (v := ?v16u17) ?hi16u17 (by kernel_rfl) (by kernel_rfl) (by kernel_rfl) ?hQ16u17 (Or.inl ⟨?hw16u17, ?hy16u17⟩) hHeld ?rest16u17
            case hi16u17 => (simp only [List.getElem?_toArray, List.getElem?_cons_succ, List.getElem?_cons_zero]; exact rfl)
            case hQ16u17 => exact fun _ _ _ h => h
            case hw16u17 => rfl
            case hy16u17 => (intro w hSw; (try dsimp only at hSw); go_simp <;> with_reducible rfl)
            try simp only [Act.put, List.setIfInBounds_toArray, List.set_cons_zero, List.set_cons_succ]
            refine wpAnyH_take (i := 17) (oi := ?oi17u18) (v := ?v17u18) ?hi17u18 (by kernel_rfl) (by kernel_rfl) (by kernel_rfl) ?hQ17u18 (Or.inl ⟨?hw17u18, ?hy17u18⟩) hHeld ?rest17u18
            case hi17u18 => (simp only [List.getElem?_toArray, List.getElem?_cons_succ, List.getElem?_cons_zero]; exact rfl)
            case hQ17u18 => exact fun _ _ _ h => h
            case hw17u18 => rfl
            case hy17u18 => (intro w hSw; (try dsimp only at hSw); go_simp <;> with_reducible rfl)
            try simp only [Act.put, List.setIfInBounds_toArray, List.set_cons_zero, List.set_cons_succ]
            refine wpAnyH_take (i := 18) (oi := ?oi18u19) (v := ?v18u19) ?hi18u19 (by kernel_rfl) (by kernel_rfl) (by kernel_rfl) ?hQ18u19 (Or.inl ⟨?hw18u19, ?hy18u19⟩) hHeld ?rest18u19
            case hi18u19 => (simp only [List.getElem?_toArray, List.getElem?_cons_succ, List.getElem?_cons_zero]; exact rfl)
            case hQ18u19 => exact fun _ _ _ h => h
            case hw18u19 => rfl
            case hy18u19 => (intro w hSw; (try dsimp only at hSw); go_simp <;> with_reducible rfl)
            try simp only [Act.put, List.setIfInBounds_toArray, List.set_cons_zero, List.set_cons_succ]
            refine wpAnyH_take (i := 19) (oi := ?oi19u20) (v := ?v19u20) ?hi19u20 (by kernel_rfl) (by kernel_rfl) (by kernel_rfl) ?hQ19u20 (Or.inl ⟨?hw19u20, ?hy19u20⟩) hHeld ?rest19u20
            case hi19u20 => (simp only [List.getElem?_toArray, List.getElem?_cons_succ, List.getElem?_cons_zero]; exact rfl)
            case hQ19u20 => exact fun _ _ _ h => h
            case hw19u20 => rfl
            case hy19u20 => (intro w hSw; (try dsimp only at hSw); go_simp <;> with_reducible rfl)
            try simp only [Act.put, List.setIfInBounds_toArray, List.set_cons_zero, List.set_cons_succ]
            refine held_one (i := 20) (o := ?oi20u21) (by kernel_rfl) ?hi20u21 (fun K hK => ?rest20u21)
            case hi20u21 => (simp only [List.getElem?_toArray, List.getElem?_cons_succ, List.getElem?_cons_zero]; exact rfl)
            go_simp
            go_at_call 14
            refine (Hs.out _ HV.out).mono ?_
            rintro e w4 ⟨rfl, hb4⟩
            have H4 := Lib.hid (HV.out.trans (hb4.mono HV.out.size))
            try go_simp
            have hHeld8 : (fun w' : World => w'.cell? ⟨gx, 0, none⟩ = some (.slice A2 L.length c2) ∧ w'.cell? ⟨gx, 1, none⟩ = some (.slice B2 tr.length d2) ∧ w'.cell? ⟨gx, 2, none⟩ = some (.int .i64 r) ∧ w'.cell? ⟨g0, 0, none⟩ = some (.slice A1 l.length c1) ∧ w'.cell? ⟨g0, 1, none⟩ = some (.slice B1 tr.length d1) ∧ w'.cell? ⟨g0, 2, none⟩ = some (.int .i64 r)) w4 := HS.out _ H4.out
            refine hK _ _ hHeld8 ?_
            clear hK K hHeld
            have hHeld := hHeld8
            clear hHeld8
            try simp only [Act.put, List.setIfInBounds_toArray, List.set_cons_zero, List.set_cons_succ]
            refine wpAnyH_take (i := 21) (oi := ?oi21u22) (v := ?v21u22) ?hi21u22 (by kernel_rfl) (by kernel_rfl) (by kernel_rfl) ?hQ21u22 (Or.inl ⟨?hw21u22, ?hy21u22⟩) hHeld ?rest21u22
            case hi21u22 => (simp only [List.getElem?_toArray, List.getElem?_cons_succ, List.getElem?_cons_zero]; exact rfl)
            case hQ21u22 => exact fun _ _ _ h => h
            case hw21u22 => rfl
            case hy21u22 => (intro w hSw; (try dsimp only at hSw); go_simp <;> with_reducible rfl)
            try simp only [Act.put, List.setIfInBounds_toArray, List.set_cons_zero, List.set_cons_succ]
            refine wpAnyH_take (i := 22) (oi := ?oi22u23) (v := ?v22u23) ?hi22u23 (by kernel_rfl) (by kernel_rfl) (by kernel_rfl) ?hQ22u23 (Or.inl ⟨?hw22u23, ?hy22u23⟩) hHeld ?rest22u23
            case hi22u23 => (simp only [List.getElem?_toArray, List.getElem?_cons_succ, List.getElem?_cons_zero]; exact rfl)
            case hQ22u23 => exact fun _ _ _ h => h
            case hw22u23 => rfl
            case hy22u23 => (intro w hSw; (try dsimp only at hSw); go_simp <;> with_reducible rfl)
            try simp only [Act.put, List.setIfInBounds_toArray, List.set_cons_zero, List.set_cons_succ]
            refine wpAnyH_take (i := 23) (oi := ?oi23u24) (v := ?v23u24) ?hi23u24 (by kernel_rfl) (by kernel_rfl) (by kernel_rfl) ?hQ23u24 (Or.inl ⟨?hw23u24, ?hy23u24⟩) hHeld ?rest23u24
            case hi23u24 => (simp only [List.getElem?_toArray, List.getElem?_cons_succ, List.getElem?_cons_zero]; exact rfl)
            case hQ23u24 => exact fun _ _ _ h => h
            case hw23u24 => rfl
            case hy23u24 => (intro w hSw; (try dsimp only at hSw); go_simp <;> with_reducible rfl)
            try simp only [Act.put, List.setIfInBounds_toArray, List.set_cons_zero, List.set_cons_succ]
            refine wpAnyH_take (i := 24) (oi := ?oi24u25) (v := ?v24u25) ?hi24u25 (by kernel_rfl) (by kernel_rfl) (by kernel_rfl) ?hQ24u25 (Or.inl ⟨?hw24u25, ?hy24u25⟩) hHeld ?rest24u25
            case hi24u25 => (simp only [List.getElem?_toArray, List.getElem?_cons_succ, List.getElem?_cons_zero]; exact rfl)
            case hQ24u25 => exact fun _ _ _ h => h
            case hw24u25 => rfl
            case hy24u25 => (intro w hSw; (try dsimp only at hSw); go_simp <;> with_reducible rfl)
            try simp only [Act.put, List.setIfInBounds_toArray, List.set_cons_zero, List.set_cons_succ]
            refine wpAnyH_take (i := 25) (oi := ?oi25u26) (v := ?v25u26) ?hi25u26 (by kernel_rfl) (by kernel_rfl) (by kernel_rfl) ?hQ25u26 (Or.inl ⟨?hw25u26, ?hy25u26⟩) hHeld ?rest25u26
            case hi25u26 => (simp only [List.getElem?_toArray, List.getElem?_cons_succ, List.getElem?_cons_zero]; exact rfl)
            case hQ25u26 => exact fun _ _ _ h => h
            case hw25u26 => rfl
            case hy25u26 => (intro w hSw; (try dsimp only at hSw); go_simp <;> with_reducible rfl)
            try simp only [Act.put, List.setIfInBounds_toArray, List.set_cons_zero, List.set_cons_succ]
            refine wpAnyH_take (i := 26) (oi := ?oi26u27) (v := ?v26u27) ?hi26u27 (by kernel_rfl) (by kernel_rfl) (by kernel_rfl) ?hQ26u27 (Or.inl ⟨?hw26u27, ?hy26u27⟩) hHeld ?rest26u27
            case hi26u27 => (simp only [List.getElem?_toArray, List.getElem?_cons_succ, List.getElem?_cons_zero]; exact rfl)
            case hQ26u27 => exact fun _ _ _ h => h
            case hw26u27 => rfl
            case hy26u27 => (intro w hSw; (try dsimp only at hSw); go_simp <;> with_reducible rfl)
            try simp only [Act.put, List.setIfInBounds_toArray, List.set_cons_zero, List.set_cons_succ]
            refine wpAnyH_take (i := 27) (oi := ?oi27u28) (v := ?v27u28) ?hi27u28 (by kernel_rfl) (by kernel_rfl) (by kernel_rfl) ?hQ27u28 (Or.inl ⟨?hw27u28, ?hy27u28⟩) hHeld ?rest27u28
            case hi27u28 => (simp only [List.getElem?_toArray, List.getElem?_cons_succ, List.getElem?_cons_zero]; exact rfl)
            case hQ27u28 => exact fun _ _ _ h => h
            case hw27u28 => rfl
            case hy27u28 => (intro w hSw; (try dsimp only at hSw); go_simp <;> with_reducible rfl)
            try simp only [Act.put, List.setIfInBounds_toArray, List.set_cons_zero, List.set_cons_succ]
            refine wpAnyH_take (i := 28) (oi := ?oi28u29) (v := ?v28u29) ?hi28u29 (by kernel_rfl) (by kernel_rfl) (by kernel_rfl) ?hQ28u29 (Or.inl ⟨?hw28u29, ?hy28u29⟩) hHeld ?rest28u29
            case hi28u29 => (simp only [List.getElem?_toArray, List.getElem?_cons_succ, List.getElem?_cons_zero]; exact rfl)
            case hQ28u29 => exact fun _ _ _ h => h
            case hw28u29 => rfl
            case hy28u29 => (intro w hSw; (try dsimp only at hSw); go_simp <;> with_reducible rfl)
            try simp only [Act.put, List.setIfInBounds_toArray, List.set_cons_zero, List.set_cons_succ]
            refine wpAnyH_take (i := 29) (oi := ?oi29u30) (v := ?v29u30) ?hi29u30 (by kernel_rfl) (by kernel_rfl) (by kernel_rfl) ?hQ29u30 (Or.inl ⟨?hw29u30, ?hy29u30⟩) hHeld ?rest29u30
            case hi29u30 => (simp only [List.getElem?_toArray, List.getElem?_cons_succ, List.getElem?_cons_zero]; exact rfl)
            case hQ29u30 => exact fun _ _ _ h => h
            case hw29u30 => rfl
            case hy29u30 => (intro w hSw; (try dsimp only at hSw); go_simp <;> with_reducible rfl)
            try simp only [Act.put, List.setIfInBounds_toArray, List.set_cons_zero, List.set_cons_succ]
            refine wpAnyH_done (by kernel_rfl) ?_ _
            clear hHeld
            go_wp2_with fail
            go_meet
            exact ⟨rfl, H4.out⟩
        case rest =>
          obtain ⟨rfl, hbn⟩ := hcut
          replace hB := hB.below hbn
          replace hBx := hBx.below hbn
          replace hO := hO.below hbn
          replace hbX := hbX.trans (hbn.mono hbX.size)
          replace hD2 := hD2.below hbn
          replace o4 := o4.below hbn
          clear hbn
          generalize wc = X at *
          go_upto_region 10 with fail
          go_cut [13, 14] from 107 to 113 (fun v13 v14 wx => ∃ A5 n5 c5, v13 = .slice A5 n5 c5 ∧ v14 = .bool (getZ l a1).isSome ∧ IsC wx A5 n5 c5 ((getZ l a1).getD []) ∧ Below X.heap.size X wx)
          case first =>
            obtain ⟨A1, c1, B1, d1, ⟨hC1, hN1⟩, hY1⟩ := hB.open
            obtain ⟨Aq, cq, hCq, hYq⟩ := hO.open
            obtain ⟨y0, y1, y2, yl⟩ := hY1 _ (Below.refl _ _)
            obtain ⟨z0, z1, z2, zl⟩ := hYq _ (Below.refl _ _)
            have Hg := Lib.hid (get8 (B := B1) (d := d1) hC1 Hok.out a1)
            clear hY1 hYq hC1 hN1 hCq hB hBx hO hD2 o4
            generalize (getZ l a1).isSome = bz at *
            generalize (getZ l a1).getD [] = tz at *
            go_wp2_with (first | (go_at_call 21; go_must (refine Hg.out.mono ?_); rintro e wn ⟨A5, n5, c5, rfl, hC5, hbn⟩))
            go_meet
            exact ⟨A5, n5, c5, rfl, rfl, hC5, hbn⟩
          case rest =>
            obtain ⟨A5, n5, c5, rfl, rfl, hC5, hbn⟩ := hcut
            replace hB := hB.below hbn
            replace hBx := hBx.below hbn
            replace hO := hO.below hbn
            replace hbX := hbX.trans (hbn.mono hbX.size)
            replace hD2 := hD2.below hbn
            replace o4 := o4.below hbn
            clear hbn
            generalize wc = X at *
            go_upto_region 11 with fail
            go_cut [15, 16] from 114 to 120 (fun v13 v14 wx => ∃ (A6 : Option Addr) (n6 c6 : Nat) (b2 : Bool) (t6 : List C), v13 = .slice A6 n6 c6 ∧ v14 = .bool b2 ∧ IsC wx A6 n6 c6 t6 ∧ Below X.heap.size X wx ∧ b2 = (getZ L a1).isSome ∧ t6 = (getZ L a1).getD [])
            case first =>
              obtain ⟨A1, c1, B1, d1, ⟨hC1, hN1⟩, hY1⟩ := hBx.open
              obtain ⟨Aq, cq, hCq, hYq⟩ := hO.open
              obtain ⟨y0, y1, y2, yl⟩ := hY1 _ (Below.refl _ _)
              obtain ⟨z0, z1, z2, zl⟩ := hYq _ (Below.refl _ _)
              have Hg := Lib.hid (get8 (B := B1) (d := d1) hC1 Ok3.out a1)
              clear hY1 hYq hC1 hN1 hCq hB hBx hO hD2 o4 hC5
              generalize (getZ L a1).isSome = bz at *
              generalize (getZ L a1).getD [] = tz at *
              go_wp2_with (first | (go_at_call 21; go_must (refine Hg.out.mono ?_); rintro e wn ⟨A5, n5, c5, rfl, hC5, hbn⟩))
              go_meet
              exact ⟨A5, n5, c5, bz, tz, rfl, rfl, hC5, hbn, rfl, rfl⟩
            case rest =>
              obtain ⟨A6, n6, c6, b2, t6, rfl, rfl, hC6, hbn, hb2, ht6⟩ := hcut
              have Hb2 := Lib.hid hb2
              have Ht6 := Lib.hid ht6
              clear hb2 ht6
              replace hB := hB.below hbn
              replace hBx := hBx.below hbn
              replace hO := hO.below hbn
              replace hbX := hbX.trans (hbn.mono hbX.size)
              replace hD2 := hD2.below hbn
              replace o4 := o4.below hbn
              replace hC5 := hC5.below hbn
              clear hbn
              generalize wc = X at *
              go_upto_region 12 with fail
              go_cut [135] from 121 to 134 (fun v wx => v = .bool false ∧ Below X.heap.size X wx)
              case first =>
                obtain ⟨A1, c1, B1, d1, ⟨hC1, hN1⟩, hY1⟩ := hB.open
                obtain ⟨Aq, cq, hCq, hYq⟩ := hO.open
                obtain ⟨y0, y1, y2, yl⟩ := hY1 _ (Below.refl _ _)
                obtain ⟨z0, z1, z2, zl⟩ := hYq _ (Below.refl _ _)
                have hqi := qIs_any A1 B1 l.length c1 tr.length d1 r a1 X (by omega)
                have Hl5 : ((getZ l a1).getD []).length ≤ 200 := getZ_len Hok.out.good a1
                clear hY1 hYq hC1 hN1 hCq hB hBx hO hD2 o4
                by_cases hin : 0 ≤ a1 ∧ a1 < (l.length : Int)
                · have hib : (decide (0 ≤ a1) && decide (a1 < (l.length : Int))) = true := by simp; exact hin
                  rw [hib] at hqi
                  have Hqi := Lib.hid hqi
                  have hb2 := Hb2.out
                  have ht6 := Ht6.out
                  rw [getZ_pre Hok.out Ok3.out Hpre.out hin] at hb2 ht6
                  rw [ht6] at hC6
                  have hn5 : n5 ≤ 1000 := by have := hC5.len; omega
                  have hn6 : n6 ≤ 1000 := by have := hC6.len; omega
                  have Hss := Lib.hid (fun wx (hb : Below X.heap.size X wx) => terms_yes (hC5.below hb) (hC6.below hb) hn5 hn6)
                  clear hqi hib hin hC5 hC6 Hl5 ht6 Hb2 Ht6
                  generalize (getZ l a1).isSome = bz at *
                  subst hb2
                  cases b2
                  · go_wp2_with (first
                      | (go_at_call 32; go_must (refine Hqi.out.mono ?_); rintro e wn ⟨rfl, hbn⟩)
                      | (go_at_call 28; go_must (refine (Hss.out _ hbn).mono ?_); rintro e wm ⟨rfl, hbm⟩))
                    go_meet
                    exact ⟨rfl, hbn.trans (hbm.mono hbn.size)⟩
                  · go_wp2_with (first
                      | (go_at_call 32; go_must (refine Hqi.out.mono ?_); rintro e wn ⟨rfl, hbn⟩)
                      | (go_at_call 28; go_must (refine (Hss.out _ hbn).mono ?_); rintro e wm ⟨rfl, hbm⟩))
                    go_meet
                    exact ⟨rfl, hbn.trans (hbm.mono hbn.size)⟩
                · have hib : (decide (0 ≤ a1) && decide (a1 < (l.length : Int))) = false := by
                    simp; omega
                  rw [hib] at hqi
                  have Hqi := Lib.hid hqi
                  clear hqi hib hin hC5 hC6 Hl5
                  generalize (getZ l a1).isSome = bz at *
                  clear Hb2 Ht6
                  go_wp2_with (first
                    | (go_at_call 32; go_must (refine Hqi.out.mono ?_); rintro e wn ⟨rfl, hbn⟩))
                  go_meet
                  exact ⟨rfl, hbn⟩
              case rest =>
                obtain ⟨rfl, hbn⟩ := hcut
                replace hB := hB.below hbn
                replace hBx := hBx.below hbn
                replace hO := hO.below hbn
                replace hbX := hbX.trans (hbn.mono hbX.size)
                replace hD2 := hD2.below hbn
                replace o4 := o4.below hbn
                clear hbn hC5 hC6 Hb2 Ht6
                generalize wc = X at *
                go_upto_region 14 with fail
                go_cut [17, 18] from 136 to 139 (fun v17 v18 wx => ∃ (As Av : Option Addr) (nv cv : Nat), v17 = .slice As 0 0 ∧ v18 = .slice Av nv cv ∧ wx.ownsRow X.heap.size 57 2 (.slice As 0 0) 0 [] ∧ wx.ownsRow X.heap.size 3 1 (.slice Av nv cv) nv ((varsF T.flat).map (Value.int .i64)) ∧ (∀ x ∈ varsF T.flat, i64 x) ∧ Below X.heap.size X wx)
                case first =>
                  obtain ⟨Aq, cq, hCq, hYq⟩ := hO.open
                  obtain ⟨z0, z1, z2, zl⟩ := hYq _ (Below.refl _ _)
                  have Hv := Lib.hid (rVarsO_any Aq T.flat.length cq T.flat (X.alloc (.cells #[] 57)) (hCq.below (bas _ _)) (by omega))
                  clear hYq hCq hB hBx hO hD2 o4
                  go_wp2_with (first | (go_at_call 33; go_must (refine Hv.out.mono ?_); rintro e wn ⟨Av, nv, cv, rfl, hov, hvw, hbn⟩))
                  go_meet
                  exact ⟨_, Av, nv, cv, rfl, rfl, own_below (own_lit0 rfl (Nat.le_refl _)) hbn, own_lower hov (by simp), hvw, (bas _ _).trans (hbn.mono (by simp))⟩
                case rest =>
                  obtain ⟨As0, Av, nv, cv, rfl, rfl, hos, hov, hvw, hbv⟩ := hcut
                  refine ‹∀ (a : Act) (w : World), Code.wp _ _ _ a w → _› _ _ ?_
                  obtain ⟨A2, c2, B2, d2, ⟨hC2, hN2⟩, hY2⟩ := hBx.open
                  obtain ⟨Aq, cq, hCq, hYq⟩ := hO.open
                  have HY2 := Lib.hid hY2
                  have HYq := Lib.hid hYq
                  have Hg := Lib.hid (fun wx (hb : Below X.heap.size X wx) (x : Int) => getO8 (B := B2) (d := d2) (hC2.below hb) Ok3.out x)
                  have HCq := Lib.hid hCq
                  have HD2 := Lib.hid hD2
                  have HO4 := Lib.hid o4
                  have HbX := Lib.hid hbX
                  have Hos := Lib.hid (show OwnG (RBo X.heap.size) 2 wc X.heap.size 57 (.slice As0 0 0) 0 [] from ⟨rfl, [], rfl, by simp, hos, by simp⟩)
                  have Hov := Lib.hid hov
                  have Hvw := Lib.hid hvw
                  have Hbv := Lib.hid hbv
                  clear hY2 hYq hC2 hN2 hCq hBx hB hO hD2 o4 hbX hos hov hvw hbv
                  go_wp2
                  go_loopw [17, 19, 20, 21] (fun sv iv _ _ wr => ∃ (k q c9 : Nat) (As : Option Addr) (s : List (Int × List C)), k ≤ 1000 ∧ iv = .int .i64 k ∧ sv = .slice As q c9 ∧ q ≤ k ∧ OwnG (RBo X.heap.size) 2 wr X.heap.size 57 (.slice As q c9) q s ∧ wr.ownsRow X.heap.size 3 1 (.slice Av nv cv) nv ((varsF T.flat).map (Value.int .i64)) ∧ Hid (BackI L b T.flat s k) ∧ Below X.heap.size X wr) (fun _ iv _ _ _ => 1000 - (intOf iv).toNat)
                  case atStart => exact ⟨0, 0, 0, As0, [], by omega, rfl, rfl, Nat.le_refl _, Hos.out, Hov.out, Lib.hid ⟨fun n h => by omega, by simp⟩, Hbv.out⟩
                  case round =>
                    clear Hos Hov Hbv
                    obtain ⟨k, q, c9, As, s, hk, rfl, rfl, hqk, hos, hov, hbk, hbr⟩ := hrel
                    have Hos := Lib.hid hos
                    have Hov := Lib.hid hov
                    clear hos hov
                    by_cases hlt : k < 1000
                    · have hz : (k : Int) ≤ 999 := by omega
                      have Hin := Lib.hid (In_any Av nv cv (varsF T.flat) (k : Int) wr ⟨Sl.own Hov.out (by omega), Hvw.out⟩ (by have := Hov.out.1; have h2 := varsF_len T.flat; simp at this; omega))
                      cases hin : inI (varsF T.flat) (k : Int)
                      · rw [hin] at Hin
                        have hnm : (⟨1, ⟨#[]⟩, (k : Int)⟩ : C) ∉ T.flat := fun hm => by
                          have : (k : Int) ∈ varsF T.flat := mem_vars.2 ⟨_, hm, rfl, rfl⟩
                          rw [(inI_iff _ _).2 this] at hin
                          cases hin
                        have Hbk2 := Lib.hid (hbk.out.skip hnm)
                        clear hin hnm
                        go_wp2_with (first | (go_at_call 34; go_must (refine Hin.out.mono ?_); rintro e w1 ⟨rfl, rfl⟩))
                        go_roundw
                        case rel => exact ⟨k + 1, q, c9, As, s, by omega, by go_num, rfl, by omega, Hos.out, Hov.out, Hbk2, hbr⟩
                        case measure => simp [intOf]; omega
                      · rw [hin] at Hin
                        have hmem : (⟨1, ⟨#[]⟩, (k : Int)⟩ : C) ∈ T.flat := by
                          obtain ⟨c0, h0, h1, h2⟩ := mem_vars.1 ((inI_iff _ _).1 hin)
                          have := flat_vname T c0 h0 h1
                          cases c0
                          simp only at h1 h2 this
                          rw [h1, h2, this] at h0
                          exact h0
                        have hpl := Hplace.out _ hmem
                        rw [Int.toNat_natCast] at hpl
                        obtain ⟨hkb, hbk3⟩ := atA_lt hpl
                        have hkp : k < p1 := by omega
                        obtain ⟨z, hzz⟩ : ∃ z : Nat, atA b k = (z : Int) := ⟨(atA b k).toNat, by omega⟩
                        have hzL : z < L.length := by
                          rcases Hatl.out k with h0 | ⟨z', h1, h2⟩
                          · omega
                          · omega
                        rw [hzz] at hbk3
                        obtain ⟨bt, ot, rfl, hbt, hwt, f0⟩ := HO4.out.at_ hbk3
                        have f0' := (hbr.cell (p := ⟨bt, ot + k, none⟩) hbt).trans f0
                        have hbtw := Nat.lt_of_lt_of_le hbt hbr.size
                        have hcap1 := HO4.out.sl.hcap
                        have hmax1 := HO4.out.sl.hmax
                        unfold maxLen at hmax1
                        have Hzz := Lib.hid hzz
                        have Hmem := Lib.hid hmem
                        have Hbk3 := Lib.hid hbk3
                        have F0 := Lib.hid f0
                        have Hbt := Lib.hid hbt
                        clear hin hmem hpl hzz hbk3 f0 hbt
                        have hz1 : decide (p1 ≤ k) = false := by simp; omega
                        have hz2 : ¬ p1 ≤ k := by omega
                        go_upto_region 19 with (first | (go_at_call 34; go_must (refine Hin.out.mono ?_); rintro e w1 ⟨rfl, rfl⟩))
                        go_cut [175] from 148 to 174 (fun v wx => v = .bool false ∧ Below wr.heap.size wr wx)
                        case first =>
                          by_cases hk2 : k < p2
                          · obtain ⟨y, hy⟩ := HD2.out.get hk2
                            obtain ⟨bl, ol, rfl, hbl2, hwl, g0'⟩ := HD2.out.at_ hy
                            have g0'' := (hbr.cell (p := ⟨bl, ol + k, none⟩) hbl2).trans g0'
                            have hblw := Nat.lt_of_lt_of_le hbl2 hbr.size
                            have hcap2 := HD2.out.sl.hcap
                            have hmax2 := HD2.out.sl.hmax
                            unfold maxLen at hmax2
                            have hk2d : decide (k < p2) = true := by simp; omega
                            have hya : atA F k = y := by simp [atA, hy]
                            have hyz : 0 ≤ y → y = (z : Int) := fun h0 => by
                              have h1 := Hpok.out.ext k (by rw [hya]; exact h0)
                              rw [Hzz.out, hya] at h1
                              exact h1.symm
                            have Hyz := Lib.hid hyz
                            clear hya hyz hy
                            have hS : ∀ w', Below wr.heap.size wr w' → w'.cell? ⟨bl, ol + k, none⟩ = some (.int .i64 y) ∧ w'.cell? ⟨bt, ot + k, none⟩ = some (.int .i64 (z : Int)) := fun w' hb => ⟨(hb.cell (p := ⟨bl, ol + k, none⟩) hblw).trans g0'', (hb.cell (p := ⟨bt, ot + k, none⟩) hbtw).trans f0'⟩
                            refine wp_region_held_drew (S := fun w' => w'.cell? ⟨bl, ol + k, none⟩ = some (.int .i64 y) ∧ w'.cell? ⟨bt, ot + k, none⟩ = some (.int .i64 (z : Int))) (by kernel_rfl) ?gs19 ?gr19
                            case gs19 => exact hS _ (Below.refl _ _).drew
                            case gr19 =>
                              intro hHeld
                              have HV : Hid (Below wr.heap.size wr wr.drew) := Lib.hid ((Below.refl _ _).drew)
                              clear hS g0'' f0' hblw hbtw g0' hbl2
                              generalize wr.drew = V at *
                              by_cases hy0 : 0 ≤ y
                              · have hyd : decide (0 ≤ y) = true := by simp; exact hy0
                                obtain rfl := Hyz.out hy0
                                refine wpAnyH_take (i := 0) (oi := ?oi0u31) (v := ?v0u31) ?hi0u31 (by kernel_rfl) (by kernel_rfl) (by kernel_rfl) ?hQ0u31 (Or.inl ⟨?hw0u31, ?hy0u31⟩) hHeld ?rest0u31
                                case hi0u31 => (simp only [List.getElem?_toArray, List.getElem?_cons_succ, List.getElem?_cons_zero]; exact rfl)
                                case hQ0u31 => exact fun _ _ _ h => h
                                case hw0u31 => rfl
                                case hy0u31 => (intro w hSw; (try dsimp only at hSw); go_simp <;> with_reducible rfl)
                                try simp only [Act.put, List.setIfInBounds_toArray, List.set_cons_zero, List.set_cons_succ]
                                refine wpAnyH_take (i := 1) (oi := ?oi1u32) (v := ?v1u32) ?hi1u32 (by kernel_rfl) (by kernel_rfl) (by kernel_rfl) ?hQ1u32 (Or.inl ⟨?hw1u32, ?hy1u32⟩) hHeld ?rest1u32
                                case hi1u32 => (simp only [List.getElem?_toArray, List.getElem?_cons_succ, List.getElem?_cons_zero]; exact rfl)
                                case hQ1u32 => exact fun _ _ _ h => h
                                case hw1u32 => rfl
                                case hy1u32 => (intro w hSw; (try dsimp only at hSw); go_simp <;> with_reducible rfl)
                                try simp only [Act.put, List.setIfInBounds_toArray, List.set_cons_zero, List.set_cons_succ]
                                refine wpAnyH_take (i := 2) (oi := ?oi2u33) (v := ?v2u33) ?hi2u33 (by kernel_rfl) (by kernel_rfl) (by kernel_rfl) ?hQ2u33 (Or.inl ⟨?hw2u33, ?hy2u33⟩) hHeld ?rest2u33
                                case hi2u33 => (simp only [List.getElem?_toArray, List.getElem?_cons_succ, List.getElem?_cons_zero]; exact rfl)
                                case hQ2u33 => exact fun _ _ _ h => h
                                case hw2u33 => rfl
                                case hy2u33 => (intro w hSw; (try dsimp only at hSw); go_simp <;> with_reducible rfl)
                                try simp only [Act.put, List.setIfInBounds_toArray, List.set_cons_zero, List.set_cons_succ]
                                refine wpAnyH_take (i := 3) (oi := ?oi3u34) (v := ?v3u34) ?hi3u34 (by kernel_rfl) (by kernel_rfl) (by kernel_rfl) ?hQ3u34 (Or.inl ⟨?hw3u34, ?hy3u34⟩) hHeld ?rest3u34
                                case hi3u34 => (simp only [List.getElem?_toArray, List.getElem?_cons_succ, List.getElem?_cons_zero]; exact rfl)
                                case hQ3u34 => exact fun _ _ _ h => h
                                case hw3u34 => rfl
                                case hy3u34 => (intro w hSw; (try dsimp only at hSw); go_simp <;> with_reducible rfl)
                                try simp only [Act.put, List.setIfInBounds_toArray, List.set_cons_zero, List.set_cons_succ]
                                refine wpAnyH_take (i := 4) (oi := ?oi4u35) (v := ?v4u35) ?hi4u35 (by kernel_rfl) (by kernel_rfl) (by kernel_rfl) ?hQ4u35 (Or.inl ⟨?hw4u35, ?hy4u35⟩) hHeld ?rest4u35
                                case hi4u35 => (simp only [List.getElem?_toArray, List.getElem?_cons_succ, List.getElem?_cons_zero]; exact rfl)
                                case hQ4u35 => exact fun _ _ _ h => h
                                case hw4u35 => rfl
                                case hy4u35 => (intro w hSw; (try dsimp only at hSw); go_simp <;> with_reducible rfl)
                                try simp only [Act.put, List.setIfInBounds_toArray, List.set_cons_zero, List.set_cons_succ]
                                refine wpAnyH_take (i := 5) (oi := ?oi5u36) (v := ?v5u36) ?hi5u36 (by kernel_rfl) (by kernel_rfl) (by kernel_rfl) ?hQ5u36 (Or.inl ⟨?hw5u36, ?hy5u36⟩) hHeld ?rest5u36
                                case hi5u36 => (simp only [List.getElem?_toArray, List.getElem?_cons_succ, List.getElem?_cons_zero]; exact rfl)
                                case hQ5u36 => exact fun _ _ _ h => h
                                case hw5u36 => rfl
                                case hy5u36 => (intro w hSw; (try dsimp only at hSw); go_simp <;> with_reducible rfl)
                                try simp only [Act.put, List.setIfInBounds_toArray, List.set_cons_zero, List.set_cons_succ]
                                refine wpAnyH_take (i := 6) (oi := ?oi6u37) (v := ?v6u37) ?hi6u37 (by kernel_rfl) (by kernel_rfl) (by kernel_rfl) ?hQ6u37 (Or.inl ⟨?hw6u37, ?hy6u37⟩) hHeld ?rest6u37
                                case hi6u37 => (simp only [List.getElem?_toArray, List.getElem?_cons_succ, List.getElem?_cons_zero]; exact rfl)
                                case hQ6u37 => exact fun _ _ _ h => h
                                case hw6u37 => rfl
                                case hy6u37 => (intro w hSw; (try dsimp only at hSw); go_simp <;> with_reducible rfl)
                                try simp only [Act.put, List.setIfInBounds_toArray, List.set_cons_zero, List.set_cons_succ]
                                refine wpAnyH_take (i := 7) (oi := ?oi7u38) (v := ?v7u38) ?hi7u38 (by kernel_rfl) (by kernel_rfl) (by kernel_rfl) ?hQ7u38 (Or.inl ⟨?hw7u38, ?hy7u38⟩) hHeld ?rest7u38
                                case hi7u38 => (simp only [List.getElem?_toArray, List.getElem?_cons_succ, List.getElem?_cons_zero]; exact rfl)
                                case hQ7u38 => exact fun _ _ _ h => h
                                case hw7u38 => rfl
                                case hy7u38 => (intro w hSw; (try dsimp only at hSw); go_simp <;> with_reducible rfl)
                                try simp only [Act.put, List.setIfInBounds_toArray, List.set_cons_zero, List.set_cons_succ]
                                refine wpAnyH_take (i := 8) (oi := ?oi8u39) (v := ?v8u39) ?hi8u39 (by kernel_rfl) (by kernel_rfl) (by kernel_rfl) ?hQ8u39 (Or.inl ⟨?hw8u39, ?hy8u39⟩) hHeld ?rest8u39
                                case hi8u39 => (simp only [List.getElem?_toArray, List.getElem?_cons_succ, List.getElem?_cons_zero]; exact rfl)
                                case hQ8u39 => exact fun _ _ _ h => h
                                case hw8u39 => rfl
                                case hy8u39 => (intro w hSw; (try dsimp only at hSw); go_simp <;> with_reducible rfl)
                                try simp only [Act.put, List.setIfInBounds_toArray, List.set_cons_zero, List.set_cons_succ]
                                refine wpAnyH_take (i := 9) (oi := ?oi9u40) (v := ?v9u40) ?hi9u40 (by kernel_rfl) (by kernel_rfl) (by kernel_rfl) ?hQ9u40 (Or.inl ⟨?hw9u40, ?hy9u40⟩) hHeld ?rest9u40
                                case hi9u40 => (simp only [List.getElem?_toArray, List.getElem?_cons_succ, List.getElem?_cons_zero]; exact rfl)
                                case hQ9u40 => exact fun _ _ _ h => h
                                case hw9u40 => rfl
                                case hy9u40 => (intro w hSw; (try dsimp only at hSw); go_simp <;> with_reducible rfl)
                                try simp only [Act.put, List.setIfInBounds_toArray, List.set_cons_zero, List.set_cons_succ]
                                refine wpAnyH_take (i := 10) (oi := ?oi10u41) (v := ?v10u41) ?hi10u41 (by kernel_rfl) (by kernel_rfl) (by kernel_rfl) ?hQ10u41 (Or.inl ⟨?hw10u41, ?hy10u41⟩) hHeld ?rest10u41
                                case hi10u41 => (simp only [List.getElem?_toArray, List.getElem?_cons_succ, List.getElem?_cons_zero]; exact rfl)
                                case hQ10u41 => exact fun _ _ _ h => h
                                case hw10u41 => rfl
                                case hy10u41 => (intro w hSw; (try dsimp only at hSw); go_simp <;> with_reducible rfl)
                                try simp only [Act.put, List.setIfInBounds_toArray, List.set_cons_zero, List.set_cons_succ]
                                refine wpAnyH_take (i := 11) (oi := ?oi11u42) (v := ?v11u42) ?hi11u42 (by kernel_rfl) (by kernel_rfl) (by kernel_rfl) ?hQ11u42 (Or.inl ⟨?hw11u42, ?hy11u42⟩) hHeld ?rest11u42
                                case hi11u42 => (simp only [List.getElem?_toArray, List.getElem?_cons_succ, List.getElem?_cons_zero]; exact rfl)
                                case hQ11u42 => exact fun _ _ _ h => h
                                case hw11u42 => rfl
                                case hy11u42 => (intro w hSw; (try dsimp only at hSw); go_simp <;> with_reducible rfl)
                                try simp only [Act.put, List.setIfInBounds_toArray, List.set_cons_zero, List.set_cons_succ]
                                refine wpAnyH_take (i := 12) (oi := ?oi12u43) (v := ?v12u43) ?hi12u43 (by kernel_rfl) (by kernel_rfl) (by kernel_rfl) ?hQ12u43 (Or.inl ⟨?hw12u43, ?hy12u43⟩) hHeld ?rest12u43
                                case hi12u43 => (simp only [List.getElem?_toArray, List.getElem?_cons_succ, List.getElem?_cons_zero]; exact rfl)
                                case hQ12u43 => exact fun _ _ _ h => h
                                case hw12u43 => rfl
                                case hy12u43 => (intro w hSw; (try dsimp only at hSw); go_simp <;> with_reducible rfl)
                                try simp only [Act.put, List.setIfInBounds_toArray, List.set_cons_zero, List.set_cons_succ]
                                refine wpAnyH_take (i := 13) (oi := ?oi13u44) (v := ?v13u44) ?hi13u44 (by kernel_rfl) (by kernel_rfl) (by kernel_rfl) ?hQ13u44 (Or.inl ⟨?hw13u44, ?hy13u44⟩) hHeld ?rest13u44
                                case hi13u44 => (simp only [List.getElem?_toArray, List.getElem?_cons_succ, List.getElem?_cons_zero]; exact rfl)
                                case hQ13u44 => exact fun _ _ _ h => h
                                case hw13u44 => rfl
                                case hy13u44 => (intro w hSw; (try dsimp only at hSw); go_simp <;> with_reducible rfl)
                                try simp only [Act.put, List.setIfInBounds_toArray, List.set_cons_zero, List.set_cons_succ]
                                refine wpAnyH_take (i := 14) (oi := ?oi14u45) (v := ?v14u45) ?hi14u45 (by kernel_rfl) (by kernel_rfl) (by kernel_rfl) ?hQ14u45 (Or.inl ⟨?hw14u45, ?hy14u45⟩) hHeld ?rest14u45
                                case hi14u45 => (simp only [List.getElem?_toArray, List.getElem?_cons_succ, List.getElem?_cons_zero]; exact rfl)
                                case hQ14u45 => exact fun _ _ _ h => h
                                case hw14u45 => rfl
                                case hy14u45 => (intro w hSw; (try dsimp only at hSw); go_simp <;> with_reducible rfl)
                                try simp only [Act.put, List.setIfInBounds_toArray, List.set_cons_zero, List.set_cons_succ]
                                refine wpAnyH_take (i := 15) (oi := ?oi15u46) (v := ?v15u46) ?hi15u46 (by kernel_rfl) (by kernel_rfl) (by kernel_rfl) ?hQ15u46 (Or.inl ⟨?hw15u46, ?hy15u46⟩) hHeld ?rest15u46
                                case hi15u46 => (simp only [List.getElem?_toArray, List.getElem?_cons_succ, List.getElem?_cons_zero]; exact rfl)
                                case hQ15u46 => exact fun _ _ _ h => h
                                case hw15u46 => rfl
                                case hy15u46 => (intro w hSw; (try dsimp only at hSw); go_simp <;> with_reducible rfl)
                                try simp only [Act.put, List.setIfInBounds_toArray, List.set_cons_zero, List.set_cons_succ]
                                refine wpAnyH_take (i := 16) (oi := ?oi16u47) (v := ?v16u47) ?hi16u47 (by kernel_rfl) (by kernel_rfl) (by kernel_rfl) ?hQ16u47 (Or.inl ⟨?hw16u47, ?hy16u47⟩) hHeld ?rest16u47
                                case hi16u47 => (simp only [List.getElem?_toArray, List.getElem?_cons_succ, List.getElem?_cons_zero]; exact rfl)
                                case hQ16u47 => exact fun _ _ _ h => h
                                case hw16u47 => rfl
                                case hy16u47 => (intro w hSw; (try dsimp only at hSw); go_simp <;> with_reducible rfl)
                                try simp only [Act.put, List.setIfInBounds_toArray, List.set_cons_zero, List.set_cons_succ]
                                refine wpAnyH_take (i := 17) (oi := ?oi17u48) (v := ?v17u48) ?hi17u48 (by kernel_rfl) (by kernel_rfl) (by kernel_rfl) ?hQ17u48 (Or.inl ⟨?hw17u48, ?hy17u48⟩) hHeld ?rest17u48
                                case hi17u48 => (simp only [List.getElem?_toArray, List.getElem?_cons_succ, List.getElem?_cons_zero]; exact rfl)
                                case hQ17u48 => exact fun _ _ _ h => h
                                case hw17u48 => rfl
                                case hy17u48 => (intro w hSw; (try dsimp only at hSw); go_simp <;> with_reducible rfl)
                                try simp only [Act.put, List.setIfInBounds_toArray, List.set_cons_zero, List.set_cons_succ]
                                refine wpAnyH_take (i := 18) (oi := ?oi18u49) (v := ?v18u49) ?hi18u49 (by kernel_rfl) (by kernel_rfl) (by kernel_rfl) ?hQ18u49 (Or.inl ⟨?hw18u49, ?hy18u49⟩) hHeld ?rest18u49
                                case hi18u49 => (simp only [List.getElem?_toArray, List.getElem?_cons_succ, List.getElem?_cons_zero]; exact rfl)
                                case hQ18u49 => exact fun _ _ _ h => h
                                case hw18u49 => rfl
                                case hy18u49 => (intro w hSw; (try dsimp only at hSw); go_simp <;> with_reducible rfl)
                                try simp only [Act.put, List.setIfInBounds_toArray, List.set_cons_zero, List.set_cons_succ]
                                refine wpAnyH_take (i := 19) (oi := ?oi19u50) (v := ?v19u50) ?hi19u50 (by kernel_rfl) (by kernel_rfl) (by kernel_rfl) ?hQ19u50 (Or.inl ⟨?hw19u50, ?hy19u50⟩) hHeld ?rest19u50
                                case hi19u50 => (simp only [List.getElem?_toArray, List.getElem?_cons_succ, List.getElem?_cons_zero]; exact rfl)
                                case hQ19u50 => exact fun _ _ _ h => h
                                case hw19u50 => rfl
                                case hy19u50 => (intro w hSw; (try dsimp only at hSw); go_simp <;> with_reducible rfl)
                                try simp only [Act.put, List.setIfInBounds_toArray, List.set_cons_zero, List.set_cons_succ]
                                refine wpAnyH_take (i := 20) (oi := ?oi20u51) (v := ?v20u51) ?hi20u51 (by kernel_rfl) (by kernel_rfl) (by kernel_rfl) ?hQ20u51 (Or.inl ⟨?hw20u51, ?hy20u51⟩) hHeld ?rest20u51
                                case hi20u51 => (simp only [List.getElem?_toArray, List.getElem?_cons_succ, List.getElem?_cons_zero]; exact rfl)
                                case hQ20u51 => exact fun _ _ _ h => h
                                case hw20u51 => rfl
                                case hy20u51 => (intro w hSw; (try dsimp only at hSw); go_simp <;> with_reducible rfl)
                                try simp only [Act.put, List.setIfInBounds_toArray, List.set_cons_zero, List.set_cons_succ]
                                refine wpAnyH_take (i := 21) (oi := ?oi21u52) (v := ?v21u52) ?hi21u52 (by kernel_rfl) (by kernel_rfl) (by kernel_rfl) ?hQ21u52 (Or.inl ⟨?hw21u52, ?hy21u52⟩) hHeld ?rest21u52
                                case hi21u52 => (simp only [List.getElem?_toArray, List.getElem?_cons_succ, List.getElem?_cons_zero]; exact rfl)
                                case hQ21u52 => exact fun _ _ _ h => h
                                case hw21u52 => rfl
                                case hy21u52 => (intro w hSw; (try dsimp only at hSw); go_simp <;> with_reducible rfl)
                                try simp only [Act.put, List.setIfInBounds_toArray, List.set_cons_zero, List.set_cons_succ]
                                refine wpAnyH_take (i := 22) (oi := ?oi22u53) (v := ?v22u53) ?hi22u53 (by kernel_rfl) (by kernel_rfl) (by kernel_rfl) ?hQ22u53 (Or.inl ⟨?hw22u53, ?hy22u53⟩) hHeld ?rest22u53
                                case hi22u53 => (simp only [List.getElem?_toArray, List.getElem?_cons_succ, List.getElem?_cons_zero]; exact rfl)
                                case hQ22u53 => exact fun _ _ _ h => h
                                case hw22u53 => rfl
                                case hy22u53 => (intro w hSw; (try dsimp only at hSw); go_simp <;> with_reducible rfl)
                                try simp only [Act.put, List.setIfInBounds_toArray, List.set_cons_zero, List.set_cons_succ]
                                refine wpAnyH_take (i := 23) (oi := ?oi23u54) (v := ?v23u54) ?hi23u54 (by kernel_rfl) (by kernel_rfl) (by kernel_rfl) ?hQ23u54 (Or.inl ⟨?hw23u54, ?hy23u54⟩) hHeld ?rest23u54
                                case hi23u54 => (simp only [List.getElem?_toArray, List.getElem?_cons_succ, List.getElem?_cons_zero]; exact rfl)
                                case hQ23u54 => exact fun _ _ _ h => h
                                case hw23u54 => rfl
                                case hy23u54 => (intro w hSw; (try dsimp only at hSw); go_simp <;> with_reducible rfl)
                                try simp only [Act.put, List.setIfInBounds_toArray, List.set_cons_zero, List.set_cons_succ]
                                refine wpAnyH_take (i := 24) (oi := ?oi24u55) (v := ?v24u55) ?hi24u55 (by kernel_rfl) (by kernel_rfl) (by kernel_rfl) ?hQ24u55 (Or.inl ⟨?hw24u55, ?hy24u55⟩) hHeld ?rest24u55
                                case hi24u55 => (simp only [List.getElem?_toArray, List.getElem?_cons_succ, List.getElem?_cons_zero]; exact rfl)
                                case hQ24u55 => exact fun _ _ _ h => h
                                case hw24u55 => rfl
                                case hy24u55 => (intro w hSw; (try dsimp only at hSw); go_simp <;> with_reducible rfl)
                                try simp only [Act.put, List.setIfInBounds_toArray, List.set_cons_zero, List.set_cons_succ]
                                refine wpAnyH_take (i := 25) (oi := ?oi25u56) (v := ?v25u56) ?hi25u56 (by kernel_rfl) (by kernel_rfl) (by kernel_rfl) ?hQ25u56 (Or.inl ⟨?hw25u56, ?hy25u56⟩) hHeld ?rest25u56
                                case hi25u56 => (simp only [List.getElem?_toArray, List.getElem?_cons_succ, List.getElem?_cons_zero]; exact rfl)
                                case hQ25u56 => exact fun _ _ _ h => h
                                case hw25u56 => rfl
                                case hy25u56 => (intro w hSw; (try dsimp only at hSw); go_simp <;> with_reducible rfl)
                                try simp only [Act.put, List.setIfInBounds_toArray, List.set_cons_zero, List.set_cons_succ]
                                refine wpAnyH_take (i := 26) (oi := ?oi26u57) (v := ?v26u57) ?hi26u57 (by kernel_rfl) (by kernel_rfl) (by kernel_rfl) ?hQ26u57 (Or.inl ⟨?hw26u57, ?hy26u57⟩) hHeld ?rest26u57
                                case hi26u57 => (simp only [List.getElem?_toArray, List.getElem?_cons_succ, List.getElem?_cons_zero]; exact rfl)
                                case hQ26u57 => exact fun _ _ _ h => h
                                case hw26u57 => rfl
                                case hy26u57 => (intro w hSw; (try dsimp only at hSw); go_simp <;> with_reducible rfl)
                                try simp only [Act.put, List.setIfInBounds_toArray, List.set_cons_zero, List.set_cons_succ]
                                refine wpAnyH_take (i := 27) (oi := ?oi27u58) (v := ?v27u58) ?hi27u58 (by kernel_rfl) (by kernel_rfl) (by kernel_rfl) ?hQ27u58 (Or.inl ⟨?hw27u58, ?hy27u58⟩) hHeld ?rest27u58
                                case hi27u58 => (simp only [List.getElem?_toArray, List.getElem?_cons_succ, List.getElem?_cons_zero]; exact rfl)
                                case hQ27u58 => exact fun _ _ _ h => h
                                case hw27u58 => rfl
                                case hy27u58 => (intro w hSw; (try dsimp only at hSw); go_simp <;> with_reducible rfl)
                                try simp only [Act.put, List.setIfInBounds_toArray, List.set_cons_zero, List.set_cons_succ]
                                refine wpAnyH_done (by kernel_rfl) ?_ _
                                clear hHeld
                                go_wp2_with fail
                                go_meet
                                exact ⟨rfl, HV.out⟩
                              · have hyd : decide (0 ≤ y) = false := by simp; omega
                                refine wpAnyH_take (i := 0) (oi := ?oi0u59) (v := ?v0u59) ?hi0u59 (by kernel_rfl) (by kernel_rfl) (by kernel_rfl) ?hQ0u59 (Or.inl ⟨?hw0u59, ?hy0u59⟩) hHeld ?rest0u59
                                case hi0u59 => (simp only [List.getElem?_toArray, List.getElem?_cons_succ, List.getElem?_cons_zero]; exact rfl)
                                case hQ0u59 => exact fun _ _ _ h => h
                                case hw0u59 => rfl
                                case hy0u59 => (intro w hSw; (try dsimp only at hSw); go_simp <;> with_reducible rfl)
                                try simp only [Act.put, List.setIfInBounds_toArray, List.set_cons_zero, List.set_cons_succ]
                                refine wpAnyH_take (i := 1) (oi := ?oi1u60) (v := ?v1u60) ?hi1u60 (by kernel_rfl) (by kernel_rfl) (by kernel_rfl) ?hQ1u60 (Or.inl ⟨?hw1u60, ?hy1u60⟩) hHeld ?rest1u60
                                case hi1u60 => (simp only [List.getElem?_toArray, List.getElem?_cons_succ, List.getElem?_cons_zero]; exact rfl)
                                case hQ1u60 => exact fun _ _ _ h => h
                                case hw1u60 => rfl
                                case hy1u60 => (intro w hSw; (try dsimp only at hSw); go_simp <;> with_reducible rfl)
                                try simp only [Act.put, List.setIfInBounds_toArray, List.set_cons_zero, List.set_cons_succ]
                                refine wpAnyH_take (i := 2) (oi := ?oi2u61) (v := ?v2u61) ?hi2u61 (by kernel_rfl) (by kernel_rfl) (by kernel_rfl) ?hQ2u61 (Or.inl ⟨?hw2u61, ?hy2u61⟩) hHeld ?rest2u61
                                case hi2u61 => (simp only [List.getElem?_toArray, List.getElem?_cons_succ, List.getElem?_cons_zero]; exact rfl)
                                case hQ2u61 => exact fun _ _ _ h => h
                                case hw2u61 => rfl
                                case hy2u61 => (intro w hSw; (try dsimp only at hSw); go_simp <;> with_reducible rfl)
                                try simp only [Act.put, List.setIfInBounds_toArray, List.set_cons_zero, List.set_cons_succ]
                                refine wpAnyH_take (i := 3) (oi := ?oi3u62) (v := ?v3u62) ?hi3u62 (by kernel_rfl) (by kernel_rfl) (by kernel_rfl) ?hQ3u62 (Or.inl ⟨?hw3u62, ?hy3u62⟩) hHeld ?rest3u62
                                case hi3u62 => (simp only [List.getElem?_toArray, List.getElem?_cons_succ, List.getElem?_cons_zero]; exact rfl)
                                case hQ3u62 => exact fun _ _ _ h => h
                                case hw3u62 => rfl
                                case hy3u62 => (intro w hSw; (try dsimp only at hSw); go_simp <;> with_reducible rfl)
                                try simp only [Act.put, List.setIfInBounds_toArray, List.set_cons_zero, List.set_cons_succ]
                                refine wpAnyH_take (i := 4) (oi := ?oi4u63) (v := ?v4u63) ?hi4u63 (by kernel_rfl) (by kernel_rfl) (by kernel_rfl) ?hQ4u63 (Or.inl ⟨?hw4u63, ?hy4u63⟩) hHeld ?rest4u63
                                case hi4u63 => (simp only [List.getElem?_toArray, List.getElem?_cons_succ, List.getElem?_cons_zero]; exact rfl)
                                case hQ4u63 => exact fun _ _ _ h => h
                                case hw4u63 => rfl
                                case hy4u63 => (intro w hSw; (try dsimp only at hSw); go_simp <;> with_reducible rfl)
                                try simp only [Act.put, List.setIfInBounds_toArray, List.set_cons_zero, List.set_cons_succ]
                                refine wpAnyH_take (i := 5) (oi := ?oi5u64) (v := ?v5u64) ?hi5u64 (by kernel_rfl) (by kernel_rfl) (by kernel_rfl) ?hQ5u64 (Or.inl ⟨?hw5u64, ?hy5u64⟩) hHeld ?rest5u64
                                case hi5u64 => (simp only [List.getElem?_toArray, List.getElem?_cons_succ, List.getElem?_cons_zero]; exact rfl)
                                case hQ5u64 => exact fun _ _ _ h => h
                                case hw5u64 => rfl
                                case hy5u64 => (intro w hSw; (try dsimp only at hSw); go_simp <;> with_reducible rfl)
                                try simp only [Act.put, List.setIfInBounds_toArray, List.set_cons_zero, List.set_cons_succ]
                                refine wpAnyH_take (i := 6) (oi := ?oi6u65) (v := ?v6u65) ?hi6u65 (by kernel_rfl) (by kernel_rfl) (by kernel_rfl) ?hQ6u65 (Or.inl ⟨?hw6u65, ?hy6u65⟩) hHeld ?rest6u65
                                case hi6u65 => (simp only [List.getElem?_toArray, List.getElem?_cons_succ, List.getElem?_cons_zero]; exact rfl)
                                case hQ6u65 => exact fun _ _ _ h => h
                                case hw6u65 => rfl
                                case hy6u65 => (intro w hSw; (try dsimp only at hSw); go_simp <;> with_reducible rfl)
                                try simp only [Act.put, List.setIfInBounds_toArray, List.set_cons_zero, List.set_cons_succ]
                                refine wpAnyH_take (i := 7) (oi := ?oi7u66) (v := ?v7u66) ?hi7u66 (by kernel_rfl) (by kernel_rfl) (by kernel_rfl) ?hQ7u66 (Or.inl ⟨?hw7u66, ?hy7u66⟩) hHeld ?rest7u66
                                case hi7u66 => (simp only [List.getElem?_toArray, List.getElem?_cons_succ, List.getElem?_cons_zero]; exact rfl)
                                case hQ7u66 => exact fun _ _ _ h => h
                                case hw7u66 => rfl
                                case hy7u66 => (intro w hSw; (try dsimp only at hSw); go_simp <;> with_reducible rfl)
                                try simp only [Act.put, List.setIfInBounds_toArray, List.set_cons_zero, List.set_cons_succ]
                                refine wpAnyH_take (i := 8) (oi := ?oi8u67) (v := ?v8u67) ?hi8u67 (by kernel_rfl) (by kernel_rfl) (by kernel_rfl) ?hQ8u67 (Or.inl ⟨?hw8u67, ?hy8u67⟩) hHeld ?rest8u67
                                case hi8u67 => (simp only [List.getElem?_toArray, List.getElem?_cons_succ, List.getElem?_cons_zero]; exact rfl)
                                case hQ8u67 => exact fun _ _ _ h => h
                                case hw8u67 => rfl
                                case hy8u67 => (intro w hSw; (try dsimp only at hSw); go_simp <;> with_reducible rfl)
                                try simp only [Act.put, List.setIfInBounds_toArray, List.set_cons_zero, List.set_cons_succ]
                                refine wpAnyH_take (i := 9) (oi := ?oi9u68) (v := ?v9u68) ?hi9u68 (by kernel_rfl) (by kernel_rfl) (by kernel_rfl) ?hQ9u68 (Or.inl ⟨?hw9u68, ?hy9u68⟩) hHeld ?rest9u68
                                case hi9u68 => (simp only [List.getElem?_toArray, List.getElem?_cons_succ, List.getElem?_cons_zero]; exact rfl)
                                case hQ9u68 => exact fun _ _ _ h => h
                                case hw9u68 => rfl
                                case hy9u68 => (intro w hSw; (try dsimp only at hSw); go_simp <;> with_reducible rfl)
                                try simp only [Act.put, List.setIfInBounds_toArray, List.set_cons_zero, List.set_cons_succ]
                                refine wpAnyH_take (i := 10) (oi := ?oi10u69) (v := ?v10u69) ?hi10u69 (by kernel_rfl) (by kernel_rfl) (by kernel_rfl) ?hQ10u69 (Or.inl ⟨?hw10u69, ?hy10u69⟩) hHeld ?rest10u69
                                case hi10u69 => (simp only [List.getElem?_toArray, List.getElem?_cons_succ, List.getElem?_cons_zero]; exact rfl)
                                case hQ10u69 => exact fun _ _ _ h => h
                                case hw10u69 => rfl
                                case hy10u69 => (intro w hSw; (try dsimp only at hSw); go_simp <;> with_reducible rfl)
                                try simp only [Act.put, List.setIfInBounds_toArray, List.set_cons_zero, List.set_cons_succ]
                                refine wpAnyH_take (i := 11) (oi := ?oi11u70) (v := ?v11u70) ?hi11u70 (by kernel_rfl) (by kernel_rfl) (by kernel_rfl) ?hQ11u70 (Or.inl ⟨?hw11u70, ?hy11u70⟩) hHeld ?rest11u70
                                case hi11u70 => (simp only [List.getElem?_toArray, List.getElem?_cons_succ, List.getElem?_cons_zero]; exact rfl)
                                case hQ11u70 => exact fun _ _ _ h => h
                                case hw11u70 => rfl
                                case hy11u70 => (intro w hSw; (try dsimp only at hSw); go_simp <;> with_reducible rfl)
                                try simp only [Act.put, List.setIfInBounds_toArray, List.set_cons_zero, List.set_cons_succ]
                                refine wpAnyH_take (i := 12) (oi := ?oi12u71) (v := ?v12u71) ?hi12u71 (by kernel_rfl) (by kernel_rfl) (by kernel_rfl) ?hQ12u71 (Or.inl ⟨?hw12u71, ?hy12u71⟩) hHeld ?rest12u71
                                case hi12u71 => (simp only [List.getElem?_toArray, List.getElem?_cons_succ, List.getElem?_cons_zero]; exact rfl)
                                case hQ12u71 => exact fun _ _ _ h => h
                                case hw12u71 => rfl
                                case hy12u71 => (intro w hSw; (try dsimp only at hSw); go_simp <;> with_reducible rfl)
                                try simp only [Act.put, List.setIfInBounds_toArray, List.set_cons_zero, List.set_cons_succ]
                                refine wpAnyH_take (i := 13) (oi := ?oi13u72) (v := ?v13u72) ?hi13u72 (by kernel_rfl) (by kernel_rfl) (by kernel_rfl) ?hQ13u72 (Or.inl ⟨?hw13u72, ?hy13u72⟩) hHeld ?rest13u72
                                case hi13u72 => (simp only [List.getElem?_toArray, List.getElem?_cons_succ, List.getElem?_cons_zero]; exact rfl)
                                case hQ13u72 => exact fun _ _ _ h => h
                                case hw13u72 => rfl
                                case hy13u72 => (intro w hSw; (try dsimp only at hSw); go_simp <;> with_reducible rfl)
                                try simp only [Act.put, List.setIfInBounds_toArray, List.set_cons_zero, List.set_cons_succ]
                                refine wpAnyH_take (i := 14) (oi := ?oi14u73) (v := ?v14u73) ?hi14u73 (by kernel_rfl) (by kernel_rfl) (by kernel_rfl) ?hQ14u73 (Or.inl ⟨?hw14u73, ?hy14u73⟩) hHeld ?rest14u73
                                case hi14u73 => (simp only [List.getElem?_toArray, List.getElem?_cons_succ, List.getElem?_cons_zero]; exact rfl)
                                case hQ14u73 => exact fun _ _ _ h => h
                                case hw14u73 => rfl
                                case hy14u73 => (intro w hSw; (try dsimp only at hSw); go_simp <;> with_reducible rfl)
                                try simp only [Act.put, List.setIfInBounds_toArray, List.set_cons_zero, List.set_cons_succ]
                                refine wpAnyH_take (i := 15) (oi := ?oi15u74) (v := ?v15u74) ?hi15u74 (by kernel_rfl) (by kernel_rfl) (by kernel_rfl) ?hQ15u74 (Or.inl ⟨?hw15u74, ?hy15u74⟩) hHeld ?rest15u74
                                case hi15u74 => (simp only [List.getElem?_toArray, List.getElem?_cons_succ, List.getElem?_cons_zero]; exact rfl)
                                case hQ15u74 => exact fun _ _ _ h => h
                                case hw15u74 => rfl
                                case hy15u74 => (intro w hSw; (try dsimp only at hSw); go_simp <;> with_reducible rfl)
                                try simp only [Act.put, List.setIfInBounds_toArray, List.set_cons_zero, List.set_cons_succ]
                                refine wpAnyH_take (i := 16) (oi := ?oi16u75) (v := ?v16u75) ?hi16u75 (by kernel_rfl) (by kernel_rfl) (by kernel_rfl) ?hQ16u75 (Or.inl ⟨?hw16u75, ?hy16u75⟩) hHeld ?rest16u75
                                case hi16u75 => (simp only [List.getElem?_toArray, List.getElem?_cons_succ, List.getElem?_cons_zero]; exact rfl)
                                case hQ16u75 => exact fun _ _ _ h => h
                                case hw16u75 => rfl
                                case hy16u75 => (intro w hSw; (try dsimp only at hSw); go_simp <;> with_reducible rfl)
                                try simp only [Act.put, List.setIfInBounds_toArray, List.set_cons_zero, List.set_cons_succ]
                                refine wpAnyH_take (i := 17) (oi := ?oi17u76) (v := undef) ?hi17u76 (by kernel_rfl) (by kernel_rfl) (by kernel_rfl) ?hQ17u76 (Or.inr ⟨?hw17u76, rfl⟩) hHeld ?rest17u76
                                case hi17u76 => (simp only [List.getElem?_toArray, List.getElem?_cons_succ, List.getElem?_cons_zero]; exact rfl)
                                case hQ17u76 => exact fun _ _ _ h => h
                                case hw17u76 => rfl
                                try simp only [Act.put, List.setIfInBounds_toArray, List.set_cons_zero, List.set_cons_succ]
                                refine wpAnyH_take (i := 18) (oi := ?oi18u77) (v := undef) ?hi18u77 (by kernel_rfl) (by kernel_rfl) (by kernel_rfl) ?hQ18u77 (Or.inr ⟨?hw18u77, rfl⟩) hHeld ?rest18u77
                                case hi18u77 => (simp only [List.getElem?_toArray, List.getElem?_cons_succ, List.getElem?_cons_zero]; exact rfl)
                                case hQ18u77 => exact fun _ _ _ h => h
                                case hw18u77 => rfl
                                try simp only [Act.put, List.setIfInBounds_toArray, List.set_cons_zero, List.set_cons_succ]
                                refine wpAnyH_take (i := 19) (oi := ?oi19u78) (v := undef) ?hi19u78 (by kernel_rfl) (by kernel_rfl) (by kernel_rfl) ?hQ19u78 (Or.inr ⟨?hw19u78, rfl⟩) hHeld ?rest19u78
                                case hi19u78 => (simp only [List.getElem?_toArray, List.getElem?_cons_succ, List.getElem?_cons_zero]; exact rfl)
                                case hQ19u78 => exact fun _ _ _ h => h
                                case hw19u78 => rfl
                                try simp only [Act.put, List.setIfInBounds_toArray, List.set_cons_zero, List.set_cons_succ]
                                refine wpAnyH_take (i := 20) (oi := ?oi20u79) (v := undef) ?hi20u79 (by kernel_rfl) (by kernel_rfl) (by kernel_rfl) ?hQ20u79 (Or.inr ⟨?hw20u79, rfl⟩) hHeld ?rest20u79
                                case hi20u79 => (simp only [List.getElem?_toArray, List.getElem?_cons_succ, List.getElem?_cons_zero]; exact rfl)
                                case hQ20u79 => exact fun _ _ _ h => h
                                case hw20u79 => rfl
                                try simp only [Act.put, List.setIfInBounds_toArray, List.set_cons_zero, List.set_cons_succ]
                                refine wpAnyH_take (i := 21) (oi := ?oi21u80) (v := undef) ?hi21u80 (by kernel_rfl) (by kernel_rfl) (by kernel_rfl) ?hQ21u80 (Or.inr ⟨?hw21u80, rfl⟩) hHeld ?rest21u80
                                case hi21u80 => (simp only [List.getElem?_toArray, List.getElem?_cons_succ, List.getElem?_cons_zero]; exact rfl)
                                case hQ21u80 => exact fun _ _ _ h => h
                                case hw21u80 => rfl
                                try simp only [Act.put, List.setIfInBounds_toArray, List.set_cons_zero, List.set_cons_succ]
                                refine wpAnyH_take (i := 22) (oi := ?oi22u81) (v := undef) ?hi22u81 (by kernel_rfl) (by kernel_rfl) (by kernel_rfl) ?hQ22u81 (Or.inr ⟨?hw22u81, rfl⟩) hHeld ?rest22u81
                                case hi22u81 => (simp only [List.getElem?_toArray, List.getElem?_cons_succ, List.getElem?_cons_zero]; exact rfl)
                                case hQ22u81 => exact fun _ _ _ h => h
                                case hw22u81 => rfl
                                try simp only [Act.put, List.setIfInBounds_toArray, List.set_cons_zero, List.set_cons_succ]
                                refine wpAnyH_take (i := 23) (oi := ?oi23u82) (v := undef) ?hi23u82 (by kernel_rfl) (by kernel_rfl) (by kernel_rfl) ?hQ23u82 (Or.inr ⟨?hw23u82, rfl⟩) hHeld ?rest23u82
                                case hi23u82 => (simp only [List.getElem?_toArray, List.getElem?_cons_succ, List.getElem?_cons_zero]; exact rfl)
                                case hQ23u82 => exact fun _ _ _ h => h
                                case hw23u82 => rfl
                                try simp only [Act.put, List.setIfInBounds_toArray, List.set_cons_zero, List.set_cons_succ]
                                refine wpAnyH_take (i := 24) (oi := ?oi24u83) (v := undef) ?hi24u83 (by kernel_rfl) (by kernel_rfl) (by kernel_rfl) ?hQ24u83 (Or.inr ⟨?hw24u83, rfl⟩) hHeld ?rest24u83
                                case hi24u83 => (simp only [List.getElem?_toArray, List.getElem?_cons_succ, List.getElem?_cons_zero]; exact rfl)
                                case hQ24u83 => exact fun _ _ _ h => h
                                case hw24u83 => rfl
                                try simp only [Act.put, List.setIfInBounds_toArray, List.set_cons_zero, List.set_cons_succ]
                                refine wpAnyH_take (i := 25) (oi := ?oi25u84) (v := undef) ?hi25u84 (by kernel_rfl) (by kernel_rfl) (by kernel_rfl) ?hQ25u84 (Or.inr ⟨?hw25u84, rfl⟩) hHeld ?rest25u84
                                case hi25u84 => (simp only [List.getElem?_toArray, List.getElem?_cons_succ, List.getElem?_cons_zero]; exact rfl)
                                case hQ25u84 => exact fun _ _ _ h => h
                                case hw25u84 => rfl
                                try simp only [Act.put, List.setIfInBounds_toArray, List.set_cons_zero, List.set_cons_succ]
                                refine wpAnyH_take (i := 26) (oi := ?oi26u85) (v := ?v26u85) ?hi26u85 (by kernel_rfl) (by kernel_rfl) (by kernel_rfl) ?hQ26u85 (Or.inl ⟨?hw26u85, ?hy26u85⟩) hHeld ?rest26u85
                                case hi26u85 => (simp only [List.getElem?_toArray, List.getElem?_cons_succ, List.getElem?_cons_zero]; exact rfl)
                                case hQ26u85 => exact fun _ _ _ h => h
                                case hw26u85 => rfl
                                case hy26u85 => (intro w hSw; (try dsimp only at hSw); go_simp <;> with_reducible rfl)
                                try simp only [Act.put, List.setIfInBounds_toArray, List.set_cons_zero, List.set_cons_succ]
                                refine wpAnyH_take (i := 27) (oi := ?oi27u86) (v := ?v27u86) ?hi27u86 (by kernel_rfl) (by kernel_rfl) (by kernel_rfl) ?hQ27u86 (Or.inl ⟨?hw27u86, ?hy27u86⟩) hHeld ?rest27u86
                                case hi27u86 => (simp only [List.getElem?_toArray, List.getElem?_cons_succ, List.getElem?_cons_zero]; exact rfl)
                                case hQ27u86 => exact fun _ _ _ h => h
                                case hw27u86 => rfl
                                case hy27u86 => (intro w hSw; (try dsimp only at hSw); go_simp <;> with_reducible rfl)
                                try simp only [Act.put, List.setIfInBounds_toArray, List.set_cons_zero, List.set_cons_succ]
                                refine wpAnyH_done (by kernel_rfl) ?_ _
                                clear hHeld
                                go_wp2_with fail
                                go_meet
                                exact ⟨rfl, HV.out⟩
                          · have hk2d : decide (k < p2) = false := by simp; omega
                            refine wp_region_held_drew (S := fun w' => True) (by kernel_rfl) ?gs19 ?gr19
                            case gs19 => trivial
                            case gr19 =>
                              intro hHeld
                              have HV : Hid (Below wr.heap.size wr wr.drew) := Lib.hid ((Below.refl _ _).drew)
                              clear f0' hbtw
                              generalize wr.drew = V at *
                              refine wpAnyH_take (i := 0) (oi := ?oi0u87) (v := ?v0u87) ?hi0u87 (by kernel_rfl) (by kernel_rfl) (by kernel_rfl) ?hQ0u87 (Or.inl ⟨?hw0u87, ?hy0u87⟩) hHeld ?rest0u87
                              case hi0u87 => (simp only [List.getElem?_toArray, List.getElem?_cons_succ, List.getElem?_cons_zero]; exact rfl)
                              case hQ0u87 => exact fun _ _ _ h => h
                              case hw0u87 => rfl
                              case hy0u87 => (intro w hSw; (try dsimp only at hSw); go_simp <;> with_reducible rfl)
                              try simp only [Act.put, List.setIfInBounds_toArray, List.set_cons_zero, List.set_cons_succ]
                              refine wpAnyH_take (i := 1) (oi := ?oi1u88) (v := ?v1u88) ?hi1u88 (by kernel_rfl) (by kernel_rfl) (by kernel_rfl) ?hQ1u88 (Or.inl ⟨?hw1u88, ?hy1u88⟩) hHeld ?rest1u88
                              case hi1u88 => (simp only [List.getElem?_toArray, List.getElem?_cons_succ, List.getElem?_cons_zero]; exact rfl)
                              case hQ1u88 => exact fun _ _ _ h => h
                              case hw1u88 => rfl
                              case hy1u88 => (intro w hSw; (try dsimp only at hSw); go_simp <;> with_reducible rfl)
                              try simp only [Act.put, List.setIfInBounds_toArray, List.set_cons_zero, List.set_cons_succ]
                              refine wpAnyH_take (i := 2) (oi := ?oi2u89) (v := ?v2u89) ?hi2u89 (by kernel_rfl) (by kernel_rfl) (by kernel_rfl) ?hQ2u89 (Or.inl ⟨?hw2u89, ?hy2u89⟩) hHeld ?rest2u89
                              case hi2u89 => (simp only [List.getElem?_toArray, List.getElem?_cons_succ, List.getElem?_cons_zero]; exact rfl)
                              case hQ2u89 => exact fun _ _ _ h => h
                              case hw2u89 => rfl
                              case hy2u89 => (intro w hSw; (try dsimp only at hSw); go_simp <;> with_reducible rfl)
                              try simp only [Act.put, List.setIfInBounds_toArray, List.set_cons_zero, List.set_cons_succ]
                              refine wpAnyH_take (i := 3) (oi := ?oi3u90) (v := ?v3u90) ?hi3u90 (by kernel_rfl) (by kernel_rfl) (by kernel_rfl) ?hQ3u90 (Or.inl ⟨?hw3u90, ?hy3u90⟩) hHeld ?rest3u90
                              case hi3u90 => (simp only [List.getElem?_toArray, List.getElem?_cons_succ, List.getElem?_cons_zero]; exact rfl)
                              case hQ3u90 => exact fun _ _ _ h => h
                              case hw3u90 => rfl
                              case hy3u90 => (intro w hSw; (try dsimp only at hSw); go_simp <;> with_reducible rfl)
                              try simp only [Act.put, List.setIfInBounds_toArray, List.set_cons_zero, List.set_cons_succ]
                              refine wpAnyH_take (i := 4) (oi := ?oi4u91) (v := ?v4u91) ?hi4u91 (by kernel_rfl) (by kernel_rfl) (by kernel_rfl) ?hQ4u91 (Or.inl ⟨?hw4u91, ?hy4u91⟩) hHeld ?rest4u91
                              case hi4u91 => (simp only [List.getElem?_toArray, List.getElem?_cons_succ, List.getElem?_cons_zero]; exact rfl)
                              case hQ4u91 => exact fun _ _ _ h => h
                              case hw4u91 => rfl
                              case hy4u91 => (intro w hSw; (try dsimp only at hSw); go_simp <;> with_reducible rfl)
                              try simp only [Act.put, List.setIfInBounds_toArray, List.set_cons_zero, List.set_cons_succ]
                              refine wpAnyH_take (i := 5) (oi := ?oi5u92) (v := ?v5u92) ?hi5u92 (by kernel_rfl) (by kernel_rfl) (by kernel_rfl) ?hQ5u92 (Or.inl ⟨?hw5u92, ?hy5u92⟩) hHeld ?rest5u92
                              case hi5u92 => (simp only [List.getElem?_toArray, List.getElem?_cons_succ, List.getElem?_cons_zero]; exact rfl)
                              case hQ5u92 => exact fun _ _ _ h => h
                              case hw5u92 => rfl
                              case hy5u92 => (intro w hSw; (try dsimp only at hSw); go_simp <;> with_reducible rfl)
                              try simp only [Act.put, List.setIfInBounds_toArray, List.set_cons_zero, List.set_cons_succ]
                              refine wpAnyH_take (i := 6) (oi := ?oi6u93) (v := ?v6u93) ?hi6u93 (by kernel_rfl) (by kernel_rfl) (by kernel_rfl) ?hQ6u93 (Or.inl ⟨?hw6u93, ?hy6u93⟩) hHeld ?rest6u93
                              case hi6u93 => (simp only [List.getElem?_toArray, List.getElem?_cons_succ, List.getElem?_cons_zero]; exact rfl)
                              case hQ6u93 => exact fun _ _ _ h => h
                              case hw6u93 => rfl
                              case hy6u93 => (intro w hSw; (try dsimp only at hSw); go_simp <;> with_reducible rfl)
                              try simp only [Act.put, List.setIfInBounds_toArray, List.set_cons_zero, List.set_cons_succ]
                              refine wpAnyH_take (i := 7) (oi := ?oi7u94) (v := ?v7u94) ?hi7u94 (by kernel_rfl) (by kernel_rfl) (by kernel_rfl) ?hQ7u94 (Or.inl ⟨?hw7u94, ?hy7u94⟩) hHeld ?rest7u94
                              case hi7u94 => (simp only [List.getElem?_toArray, List.getElem?_cons_succ, List.getElem?_cons_zero]; exact rfl)
                              case hQ7u94 => exact fun _ _ _ h => h
                              case hw7u94 => rfl
                              case hy7u94 => (intro w hSw; (try dsimp only at hSw); go_simp <;> with_reducible rfl)
                              try simp only [Act.put, List.setIfInBounds_toArray, List.set_cons_zero, List.set_cons_succ]
                              refine wpAnyH_take (i := 8) (oi := ?oi8u95) (v := ?v8u95) ?hi8u95 (by kernel_rfl) (by kernel_rfl) (by kernel_rfl) ?hQ8u95 (Or.inl ⟨?hw8u95, ?hy8u95⟩) hHeld ?rest8u95
                              case hi8u95 => (simp only [List.getElem?_toArray, List.getElem?_cons_succ, List.getElem?_cons_zero]; exact rfl)
                              case hQ8u95 => exact fun _ _ _ h => h
                              case hw8u95 => rfl
                              case hy8u95 => (intro w hSw; (try dsimp only at hSw); go_simp <;> with_reducible rfl)
                              try simp only [Act.put, List.setIfInBounds_toArray, List.set_cons_zero, List.set_cons_succ]
                              refine wpAnyH_take (i := 9) (oi := ?oi9u96) (v := ?v9u96) ?hi9u96 (by kernel_rfl) (by kernel_rfl) (by kernel_rfl) ?hQ9u96 (Or.inl ⟨?hw9u96, ?hy9u96⟩) hHeld ?rest9u96
                              case hi9u96 => (simp only [List.getElem?_toArray, List.getElem?_cons_succ, List.getElem?_cons_zero]; exact rfl)
                              case hQ9u96 => exact fun _ _ _ h => h
                              case hw9u96 => rfl
                              case hy9u96 => (intro w hSw; (try dsimp only at hSw); go_simp <;> with_reducible rfl)
                              try simp only [Act.put, List.setIfInBounds_toArray, List.set_cons_zero, List.set_cons_succ]
                              refine wpAnyH_take (i := 10) (oi := ?oi10u97) (v := undef) ?hi10u97 (by kernel_rfl) (by kernel_rfl) (by kernel_rfl) ?hQ10u97 (Or.inr ⟨?hw10u97, rfl⟩) hHeld ?rest10u97
                              case hi10u97 => (simp only [List.getElem?_toArray, List.getElem?_cons_succ, List.getElem?_cons_zero]; exact rfl)
                              case hQ10u97 => exact fun _ _ _ h => h
                              case hw10u97 => rfl
                              try simp only [Act.put, List.setIfInBounds_toArray, List.set_cons_zero, List.set_cons_succ]
                              refine wpAnyH_take (i := 11) (oi := ?oi11u98) (v := undef) ?hi11u98 (by kernel_rfl) (by kernel_rfl) (by kernel_rfl) ?hQ11u98 (Or.inr ⟨?hw11u98, rfl⟩) hHeld ?rest11u98
                              case hi11u98 => (simp only [List.getElem?_toArray, List.getElem?_cons_succ, List.getElem?_cons_zero]; exact rfl)
                              case hQ11u98 => exact fun _ _ _ h => h
                              case hw11u98 => rfl
                              try simp only [Act.put, List.setIfInBounds_toArray, List.set_cons_zero, List.set_cons_succ]
                              refine wpAnyH_take (i := 12) (oi := ?oi12u99) (v := undef) ?hi12u99 (by kernel_rfl) (by kernel_rfl) (by kernel_rfl) ?hQ12u99 (Or.inr ⟨?hw12u99, rfl⟩) hHeld ?rest12u99
                              case hi12u99 => (simp only [List.getElem?_toArray, List.getElem?_cons_succ, List.getElem?_cons_zero]; exact rfl)
                              case hQ12u99 => exact fun _ _ _ h => h
                              case hw12u99 => rfl
                              try simp only [Act.put, List.setIfInBounds_toArray, List.set_cons_zero, List.set_cons_succ]
                              refine wpAnyH_take (i := 13) (oi := ?oi13u100) (v := undef) ?hi13u100 (by kernel_rfl) (by kernel_rfl) (by kernel_rfl) ?hQ13u100 (Or.inr ⟨?hw13u100, rfl⟩) hHeld ?rest13u100
                              case hi13u100 => (simp only [List.getElem?_toArray, List.getElem?_cons_succ, List.getElem?_cons_zero]; exact rfl)
                              case hQ13u100 => exact fun _ _ _ h => h
                              case hw13u100 => rfl
                              try simp only [Act.put, List.setIfInBounds_toArray, List.set_cons_zero, List.set_cons_succ]
                              refine wpAnyH_take (i := 14) (oi := ?oi14u101) (v := undef) ?hi14u101 (by kernel_rfl) (by kernel_rfl) (by kernel_rfl) ?hQ14u101 (Or.inr ⟨?hw14u101, rfl⟩) hHeld ?rest14u101
                              case hi14u101 => (simp only [List.getElem?_toArray, List.getElem?_cons_succ, List.getElem?_cons_zero]; exact rfl)
                              case hQ14u101 => exact fun _ _ _ h => h
                              case hw14u101 => rfl
                              try simp only [Act.put, List.setIfInBounds_toArray, List.set_cons_zero, List.set_cons_succ]
                              refine wpAnyH_take (i := 15) (oi := ?oi15u102) (v := ?v15u102) ?hi15u102 (by kernel_rfl) (by kernel_rfl) (by kernel_rfl) ?hQ15u102 (Or.inl ⟨?hw15u102, ?hy15u102⟩) hHeld ?rest15u102
                              case hi15u102 => (simp only [List.getElem?_toArray, List.getElem?_cons_succ, List.getElem?_cons_zero]; exact rfl)
                              case hQ15u102 => exact fun _ _ _ h => h
                              case hw15u102 => rfl
                              case hy15u102 => (intro w hSw; (try dsimp only at hSw); go_simp <;> with_reducible rfl)
                              try simp only [Act.put, List.setIfInBounds_toArray, List.set_cons_zero, List.set_cons_succ]
                              refine wpAnyH_take (i := 16) (oi := ?oi16u103) (v := ?v16u103) ?hi16u103 (by kernel_rfl) (by kernel_rfl) (by kernel_rfl) ?hQ16u103 (Or.inl ⟨?hw16u103, ?hy16u103⟩) hHeld ?rest16u103
                              case hi16u103 => (simp only [List.getElem?_toArray, List.getElem?_cons_succ, List.getElem?_cons_zero]; exact rfl)
                              case hQ16u103 => exact fun _ _ _ h => h
                              case hw16u103 => rfl
                              case hy16u103 => (intro w hSw; (try dsimp only at hSw); go_simp <;> with_reducible rfl)
                              try simp only [Act.put, List.setIfInBounds_toArray, List.set_cons_zero, List.set_cons_succ]
                              refine wpAnyH_take (i := 17) (oi := ?oi17u104) (v := undef) ?hi17u104 (by kernel_rfl) (by kernel_rfl) (by kernel_rfl) ?hQ17u104 (Or.inr ⟨?hw17u104, rfl⟩) hHeld ?rest17u104
                              case hi17u104 => (simp only [List.getElem?_toArray, List.getElem?_cons_succ, List.getElem?_cons_zero]; exact rfl)
                              case hQ17u104 => exact fun _ _ _ h => h
                              case hw17u104 => rfl
                              try simp only [Act.put, List.setIfInBounds_toArray, List.set_cons_zero, List.set_cons_succ]
                              refine wpAnyH_take (i := 18) (oi := ?oi18u105) (v := undef) ?hi18u105 (by kernel_rfl) (by kernel_rfl) (by kernel_rfl) ?hQ18u105 (Or.inr ⟨?hw18u105, rfl⟩) hHeld ?rest18u105
                              case hi18u105 => (simp only [List.getElem?_toArray, List.getElem?_cons_succ, List.getElem?_cons_zero]; exact rfl)
                              case hQ18u105 => exact fun _ _ _ h => h
                              case hw18u105 => rfl
                              try simp only [Act.put, List.setIfInBounds_toArray, List.set_cons_zero, List.set_cons_succ]
                              refine wpAnyH_take (i := 19) (oi := ?oi19u106) (v := undef) ?hi19u106 (by kernel_rfl) (by kernel_rfl) (by kernel_rfl) ?hQ19u106 (Or.inr ⟨?hw19u106, rfl⟩) hHeld ?rest19u106
                              case hi19u106 => (simp only [List.getElem?_toArray, List.getElem?_cons_succ, List.getElem?_cons_zero]; exact rfl)
                              case hQ19u106 => exact fun _ _ _ h => h
                              case hw19u106 => rfl
                              try simp only [Act.put, List.setIfInBounds_toArray, List.set_cons_zero, List.set_cons_succ]
                              refine wpAnyH_take (i := 20) (oi := ?oi20u107) (v := undef) ?hi20u107 (by kernel_rfl) (by kernel_rfl) (by kernel_rfl) ?hQ20u107 (Or.inr ⟨?hw20u107, rfl⟩) hHeld ?rest20u107
                              case hi20u107 => (simp only [List.getElem?_toArray, List.getElem?_cons_succ, List.getElem?_cons_zero]; exact rfl)
                              case hQ20u107 => exact fun _ _ _ h => h
                              case hw20u107 => rfl
                              try simp only [Act.put, List.setIfInBounds_toArray, List.set_cons_zero, List.set_cons_succ]
                              refine wpAnyH_take (i := 21) (oi := ?oi21u108) (v := undef) ?hi21u108 (by kernel_rfl) (by kernel_rfl) (by kernel_rfl) ?hQ21u108 (Or.inr ⟨?hw21u108, rfl⟩) hHeld ?rest21u108
                              case hi21u108 => (simp only [List.getElem?_toArray, List.getElem?_cons_succ, List.getElem?_cons_zero]; exact rfl)
                              case hQ21u108 => exact fun _ _ _ h => h
                              case hw21u108 => rfl
                              try simp only [Act.put, List.setIfInBounds_toArray, List.set_cons_zero, List.set_cons_succ]
                              refine wpAnyH_take (i := 22) (oi := ?oi22u109) (v := undef) ?hi22u109 (by kernel_rfl) (by kernel_rfl) (by kernel_rfl) ?hQ22u109 (Or.inr ⟨?hw22u109, rfl⟩) hHeld ?rest22u109
                              case hi22u109 => (simp only [List.getElem?_toArray, List.getElem?_cons_succ, List.getElem?_cons_zero]; exact rfl)
                              case hQ22u109 => exact fun _ _ _ h => h
                              case hw22u109 => rfl
                              try simp only [Act.put, List.setIfInBounds_toArray, List.set_cons_zero, List.set_cons_succ]
                              refine wpAnyH_take (i := 23) (oi := ?oi23u110) (v := undef) ?hi23u110 (by kernel_rfl) (by kernel_rfl) (by kernel_rfl) ?hQ23u110 (Or.inr ⟨?hw23u110, rfl⟩) hHeld ?rest23u110
                              case hi23u110 => (simp only [List.getElem?_toArray, List.getElem?_cons_succ, List.getElem?_cons_zero]; exact rfl)
                              case hQ23u110 => exact fun _ _ _ h => h
                              case hw23u110 => rfl
                              try simp only [Act.put, List.setIfInBounds_toArray, List.set_cons_zero, List.set_cons_succ]
                              refine wpAnyH_take (i := 24) (oi := ?oi24u111) (v := undef) ?hi24u111 (by kernel_rfl) (by kernel_rfl) (by kernel_rfl) ?hQ24u111 (Or.inr ⟨?hw24u111, rfl⟩) hHeld ?rest24u111
                              case hi24u111 => (simp only [List.getElem?_toArray, List.getElem?_cons_succ, List.getElem?_cons_zero]; exact rfl)
                              case hQ24u111 => exact fun _ _ _ h => h
                              case hw24u111 => rfl
                              try simp only [Act.put, List.setIfInBounds_toArray, List.set_cons_zero, List.set_cons_succ]
                              refine wpAnyH_take (i := 25) (oi := ?oi25u112) (v := undef) ?hi25u112 (by kernel_rfl) (by kernel_rfl) (by kernel_rfl) ?hQ25u112 (Or.inr ⟨?hw25u112, rfl⟩) hHeld ?rest25u112
                              case hi25u112 => (simp only [List.getElem?_toArray, List.getElem?_cons_succ, List.getElem?_cons_zero]; exact rfl)
                              case hQ25u112 => exact fun _ _ _ h => h
                              case hw25u112 => rfl
                              try simp only [Act.put, List.setIfInBounds_toArray, List.set_cons_zero, List.set_cons_succ]
                              refine wpAnyH_take (i := 26) (oi := ?oi26u113) (v := ?v26u113) ?hi26u113 (by kernel_rfl) (by kernel_rfl) (by kernel_rfl) ?hQ26u113 (Or.inl ⟨?hw26u113, ?hy26u113⟩) hHeld ?rest26u113
                              case hi26u113 => (simp only [List.getElem?_toArray, List.getElem?_cons_succ, List.getElem?_cons_zero]; exact rfl)
                              case hQ26u113 => exact fun _ _ _ h => h
                              case hw26u113 => rfl
                              case hy26u113 => (intro w hSw; (try dsimp only at hSw); go_simp <;> with_reducible rfl)
                              try simp only [Act.put, List.setIfInBounds_toArray, List.set_cons_zero, List.set_cons_succ]
                              refine wpAnyH_take (i := 27) (oi := ?oi27u114) (v := ?v27u114) ?hi27u114 (by kernel_rfl) (by kernel_rfl) (by kernel_rfl) ?hQ27u114 (Or.inl ⟨?hw27u114, ?hy27u114⟩) hHeld ?rest27u114
                              case hi27u114 => (simp only [List.getElem?_toArray, List.getElem?_cons_succ, List.getElem?_cons_zero]; exact rfl)
                              case hQ27u114 => exact fun _ _ _ h => h
                              case hw27u114 => rfl
                              case hy27u114 => (intro w hSw; (try dsimp only at hSw); go_simp <;> with_reducible rfl)
                              try simp only [Act.put, List.setIfInBounds_toArray, List.set_cons_zero, List.set_cons_succ]
                              refine wpAnyH_done (by kernel_rfl) ?_ _
                              clear hHeld
                              go_wp2_with fail
                              go_meet
                              exact ⟨rfl, HV.out⟩
                        case rest =>
                          obtain ⟨rfl, hbn⟩ := hcut
                          have hbr2 := hbr.trans (hbn.mono hbr.size)
                          have Hos2 := Lib.hid (OwnG.below (keepsBo _) Hos.out hbn)
                          have Hov2 := Lib.hid (own_below Hov.out hbn)
                          clear f0' hbtw hbn Hos Hov hbr
                          generalize wc = Y at *
                          have hgz : getZ L (z : Int) = getF L z := by
                            unfold getZ
                            rw [if_pos (by omega), Int.toNat_natCast]
                          have hgo := fun wx (hb : Below X.heap.size X wx) => Hg.out wx hb (z : Int)
                          rw [hgz] at hgo
                          obtain ⟨G, hG⟩ : ∃ G, getF L z = G := ⟨_, rfl⟩
                          rw [hG] at hgo
                          have Hgo := Lib.hid hgo
                          have HG := Lib.hid hG
                          clear hgz hgo hG
                          go_upto_region 21 with fail
                          go_cut [20, 21] from 176 to 184 (fun v20 v21 wx => Below Y.heap.size Y wx ∧ match G with
                            | some u => ∃ A' n' c', v20 = .slice A' n' c' ∧ v21 = .bool true ∧ wx.ownsRow X.heap.size 54 3 (.slice A' n' c') n' (flatC u) ∧ (∀ x ∈ u, x.wf)
                            | none => v20 = .slice none 0 0 ∧ v21 = .bool false)
                          case first =>
                            have hS : ∀ w', Below Y.heap.size Y w' → w'.cell? ⟨gx, 0, none⟩ = some (.slice A2 L.length c2) ∧ w'.cell? ⟨gx, 1, none⟩ = some (.slice B2 tr.length d2) ∧ w'.cell? ⟨gx, 2, none⟩ = some (.int .i64 r) ∧ w'.cell? ⟨bt, ot + k, none⟩ = some (.int .i64 (z : Int)) := fun w' hb => by
                              obtain ⟨q0, q1, q2, _⟩ := HY2.out w' (hbr2.trans (hb.mono hbr2.size))
                              exact ⟨q0, q1, q2, ((hbr2.trans (hb.mono hbr2.size)).cell (p := ⟨bt, ot + k, none⟩) Hbt.out).trans F0.out⟩
                            refine wp_region_held_drew (S := fun w' => w'.cell? ⟨gx, 0, none⟩ = some (.slice A2 L.length c2) ∧ w'.cell? ⟨gx, 1, none⟩ = some (.slice B2 tr.length d2) ∧ w'.cell? ⟨gx, 2, none⟩ = some (.int .i64 r) ∧ w'.cell? ⟨bt, ot + k, none⟩ = some (.int .i64 (z : Int))) (by kernel_rfl) ?gs21 ?gr21
                            case gs21 => exact hS _ (Below.refl _ _).drew
                            case gr21 =>
                              intro hHeld
                              have HS := Lib.hid hS
                              have HV : Hid (Below Y.heap.size Y Y.drew) := Lib.hid ((Below.refl _ _).drew)
                              have HVX := Lib.hid (hbr2.trans (HV.out.mono hbr2.size))
                              clear hS
                              generalize Y.drew = V at *

                              refine wpAnyH_take (i := 0) (oi := ?oi0u115) (v := ?v0u115) ?hi0u115 (by kernel_rfl) (by kernel_rfl) (by kernel_rfl) ?hQ0u115 (Or.inl ⟨?hw0u115, ?hy0u115⟩) hHeld ?rest0u115
                              case hi0u115 => (simp only [List.getElem?_toArray, List.getElem?_cons_succ, List.getElem?_cons_zero]; exact rfl)
                              case hQ0u115 => exact fun _ _ _ h => h
                              case hw0u115 => rfl
                              case hy0u115 => (intro w hSw; (try dsimp only at hSw); go_simp <;> with_reducible rfl)
                              try simp only [Act.put, List.setIfInBounds_toArray, List.set_cons_zero, List.set_cons_succ]
                              refine wpAnyH_take (i := 1) (oi := ?oi1u116) (v := ?v1u116) ?hi1u116 (by kernel_rfl) (by kernel_rfl) (by kernel_rfl) ?hQ1u116 (Or.inl ⟨?hw1u116, ?hy1u116⟩) hHeld ?rest1u116
                              case hi1u116 => (simp only [List.getElem?_toArray, List.getElem?_cons_succ, List.getElem?_cons_zero]; exact rfl)
                              case hQ1u116 => exact fun _ _ _ h => h
                              case hw1u116 => rfl
                              case hy1u116 => (intro w hSw; (try dsimp only at hSw); go_simp <;> with_reducible rfl)
                              try simp only [Act.put, List.setIfInBounds_toArray, List.set_cons_zero, List.set_cons_succ]
                              refine wpAnyH_take (i := 2) (oi := ?oi2u117) (v := ?v2u117) ?hi2u117 (by kernel_rfl) (by kernel_rfl) (by kernel_rfl) ?hQ2u117 (Or.inl ⟨?hw2u117, ?hy2u117⟩) hHeld ?rest2u117
                              case hi2u117 => (simp only [List.getElem?_toArray, List.getElem?_cons_succ, List.getElem?_cons_zero]; exact rfl)
                              case hQ2u117 => exact fun _ _ _ h => h
                              case hw2u117 => rfl
                              case hy2u117 => (intro w hSw; (try dsimp only at hSw); go_simp <;> with_reducible rfl)
                              try simp only [Act.put, List.setIfInBounds_toArray, List.set_cons_zero, List.set_cons_succ]
                              refine wpAnyH_take (i := 3) (oi := ?oi3u118) (v := ?v3u118) ?hi3u118 (by kernel_rfl) (by kernel_rfl) (by kernel_rfl) ?hQ3u118 (Or.inl ⟨?hw3u118, ?hy3u118⟩) hHeld ?rest3u118
                              case hi3u118 => (simp only [List.getElem?_toArray, List.getElem?_cons_succ, List.getElem?_cons_zero]; exact rfl)
                              case hQ3u118 => exact fun _ _ _ h => h
                              case hw3u118 => rfl
                              case hy3u118 => (intro w hSw; (try dsimp only at hSw); go_simp <;> with_reducible rfl)
                              try simp only [Act.put, List.setIfInBounds_toArray, List.set_cons_zero, List.set_cons_succ]
                              refine wpAnyH_take (i := 4) (oi := ?oi4u119) (v := ?v4u119) ?hi4u119 (by kernel_rfl) (by kernel_rfl) (by kernel_rfl) ?hQ4u119 (Or.inl ⟨?hw4u119, ?hy4u119⟩) hHeld ?rest4u119
                              case hi4u119 => (simp only [List.getElem?_toArray, List.getElem?_cons_succ, List.getElem?_cons_zero]; exact rfl)
                              case hQ4u119 => exact fun _ _ _ h => h
                              case hw4u119 => rfl
                              case hy4u119 => (intro w hSw; (try dsimp only at hSw); go_simp <;> with_reducible rfl)
                              try simp only [Act.put, List.setIfInBounds_toArray, List.set_cons_zero, List.set_cons_succ]
                              refine held_one (i := 5) (o := ?oi5u120) (by kernel_rfl) ?hi5u120 (fun K hK => ?rest5u120)
                              case hi5u120 => (simp only [List.getElem?_toArray, List.getElem?_cons_succ, List.getElem?_cons_zero]; exact rfl)
                              go_simp
                              go_at_call 21
                              refine (Hgo.out V HVX.out).mono ?_
                              rintro e w4 hret
                              unfold RetGetO at hret
                              obtain ⟨hb4, hret⟩ := hret
                              have H4 := Lib.hid (HV.out.trans (hb4.mono HV.out.size))
                              cases G with
                              | none =>
                                simp only at hret
                                subst hret
                                try go_simp
                                have hHeld8 : (fun w' : World => w'.cell? ⟨gx, 0, none⟩ = some (.slice A2 L.length c2) ∧ w'.cell? ⟨gx, 1, none⟩ = some (.slice B2 tr.length d2) ∧ w'.cell? ⟨gx, 2, none⟩ = some (.int .i64 r) ∧ w'.cell? ⟨bt, ot + k, none⟩ = some (.int .i64 (z : Int))) w4 := HS.out _ H4.out
                                refine hK _ _ hHeld8 ?_
                                clear hK K hHeld
                                have hHeld := hHeld8
                                clear hHeld8
                                try simp only [Act.put, List.setIfInBounds_toArray, List.set_cons_zero, List.set_cons_succ]
                                refine wpAnyH_take (i := 6) (oi := ?oi6u121) (v := ?v6u121) ?hi6u121 (by kernel_rfl) (by kernel_rfl) (by kernel_rfl) ?hQ6u121 (Or.inl ⟨?hw6u121, ?hy6u121⟩) hHeld ?rest6u121
                                case hi6u121 => (simp only [List.getElem?_toArray, List.getElem?_cons_succ, List.getElem?_cons_zero]; exact rfl)
                                case hQ6u121 => exact fun _ _ _ h => h
                                case hw6u121 => rfl
                                case hy6u121 => (intro w hSw; (try dsimp only at hSw); go_simp <;> with_reducible rfl)
                                try simp only [Act.put, List.setIfInBounds_toArray, List.set_cons_zero, List.set_cons_succ]
                                refine wpAnyH_take (i := 7) (oi := ?oi7u122) (v := ?v7u122) ?hi7u122 (by kernel_rfl) (by kernel_rfl) (by kernel_rfl) ?hQ7u122 (Or.inl ⟨?hw7u122, ?hy7u122⟩) hHeld ?rest7u122
                                case hi7u122 => (simp only [List.getElem?_toArray, List.getElem?_cons_succ, List.getElem?_cons_zero]; exact rfl)
                                case hQ7u122 => exact fun _ _ _ h => h
                                case hw7u122 => rfl
                                case hy7u122 => (intro w hSw; (try dsimp only at hSw); go_simp <;> with_reducible rfl)
                                try simp only [Act.put, List.setIfInBounds_toArray, List.set_cons_zero, List.set_cons_succ]
                                refine wpAnyH_take (i := 8) (oi := ?oi8u123) (v := ?v8u123) ?hi8u123 (by kernel_rfl) (by kernel_rfl) (by kernel_rfl) ?hQ8u123 (Or.inl ⟨?hw8u123, ?hy8u123⟩) hHeld ?rest8u123
                                case hi8u123 => (simp only [List.getElem?_toArray, List.getElem?_cons_succ, List.getElem?_cons_zero]; exact rfl)
                                case hQ8u123 => exact fun _ _ _ h => h
                                case hw8u123 => rfl
                                case hy8u123 => (intro w hSw; (try dsimp only at hSw); go_simp <;> with_reducible rfl)
                                try simp only [Act.put, List.setIfInBounds_toArray, List.set_cons_zero, List.set_cons_succ]
                                refine wpAnyH_take (i := 9) (oi := ?oi9u124) (v := ?v9u124) ?hi9u124 (by kernel_rfl) (by kernel_rfl) (by kernel_rfl) ?hQ9u124 (Or.inl ⟨?hw9u124, ?hy9u124⟩) hHeld ?rest9u124
                                case hi9u124 => (simp only [List.getElem?_toArray, List.getElem?_cons_succ, List.getElem?_cons_zero]; exact rfl)
                                case hQ9u124 => exact fun _ _ _ h => h
                                case hw9u124 => rfl
                                case hy9u124 => (intro w hSw; (try dsimp only at hSw); go_simp <;> with_reducible rfl)
                                try simp only [Act.put, List.setIfInBounds_toArray, List.set_cons_zero, List.set_cons_succ]
                                refine wpAnyH_take (i := 10) (oi := ?oi10u125) (v := ?v10u125) ?hi10u125 (by kernel_rfl) (by kernel_rfl) (by kernel_rfl) ?hQ10u125 (Or.inl ⟨?hw10u125, ?hy10u125⟩) hHeld ?rest10u125
                                case hi10u125 => (simp only [List.getElem?_toArray, List.getElem?_cons_succ, List.getElem?_cons_zero]; exact rfl)
                                case hQ10u125 => exact fun _ _ _ h => h
                                case hw10u125 => rfl
                                case hy10u125 => (intro w hSw; (try dsimp only at hSw); go_simp <;> with_reducible rfl)
                                try simp only [Act.put, List.setIfInBounds_toArray, List.set_cons_zero, List.set_cons_succ]
                                refine wpAnyH_done (by kernel_rfl) ?_ _
                                clear hHeld
                                go_wp2_with fail
                                go_meet
                                exact ⟨H4.out, rfl, rfl⟩
                              | some u =>
                                simp only at hret
                                obtain ⟨A', n', c', rfl, hC, hO⟩ := hret
                                have HC := Lib.hid hC.wf
                                have HO := Lib.hid (own_lower hO HVX.out.size)
                                clear hC hO
                                try go_simp
                                have hHeld8 : (fun w' : World => w'.cell? ⟨gx, 0, none⟩ = some (.slice A2 L.length c2) ∧ w'.cell? ⟨gx, 1, none⟩ = some (.slice B2 tr.length d2) ∧ w'.cell? ⟨gx, 2, none⟩ = some (.int .i64 r) ∧ w'.cell? ⟨bt, ot + k, none⟩ = some (.int .i64 (z : Int))) w4 := HS.out _ H4.out
                                refine hK _ _ hHeld8 ?_
                                clear hK K hHeld
                                have hHeld := hHeld8
                                clear hHeld8
                                try simp only [Act.put, List.setIfInBounds_toArray, List.set_cons_zero, List.set_cons_succ]
                                refine wpAnyH_take (i := 6) (oi := ?oi6u126) (v := ?v6u126) ?hi6u126 (by kernel_rfl) (by kernel_rfl) (by kernel_rfl) ?hQ6u126 (Or.inl ⟨?hw6u126, ?hy6u126⟩) hHeld ?rest6u126
                                case hi6u126 => (simp only [List.getElem?_toArray, List.getElem?_cons_succ, List.getElem?_cons_zero]; exact rfl)
                                case hQ6u126 => exact fun _ _ _ h => h
                                case hw6u126 => rfl
                                case hy6u126 => (intro w hSw; (try dsimp only at hSw); go_simp <;> with_reducible rfl)
                                try simp only [Act.put, List.setIfInBounds_toArray, List.set_cons_zero, List.set_cons_succ]
                                refine wpAnyH_take (i := 7) (oi := ?oi7u127) (v := ?v7u127) ?hi7u127 (by kernel_rfl) (by kernel_rfl) (by kernel_rfl) ?hQ7u127 (Or.inl ⟨?hw7u127, ?hy7u127⟩) hHeld ?rest7u127
                                case hi7u127 => (simp only [List.getElem?_toArray, List.getElem?_cons_succ, List.getElem?_cons_zero]; exact rfl)
                                case hQ7u127 => exact fun _ _ _ h => h
                                case hw7u127 => rfl
                                case hy7u127 => (intro w hSw; (try dsimp only at hSw); go_simp <;> with_reducible rfl)
                                try simp only [Act.put, List.setIfInBounds_toArray, List.set_cons_zero, List.set_cons_succ]
                                refine wpAnyH_take (i := 8) (oi := ?oi8u128) (v := ?v8u128) ?hi8u128 (by kernel_rfl) (by kernel_rfl) (by kernel_rfl) ?hQ8u128 (Or.inl ⟨?hw8u128, ?hy8u128⟩) hHeld ?rest8u128
                                case hi8u128 => (simp only [List.getElem?_toArray, List.getElem?_cons_succ, List.getElem?_cons_zero]; exact rfl)
                                case hQ8u128 => exact fun _ _ _ h => h
                                case hw8u128 => rfl
                                case hy8u128 => (intro w hSw; (try dsimp only at hSw); go_simp <;> with_reducible rfl)
                                try simp only [Act.put, List.setIfInBounds_toArray, List.set_cons_zero, List.set_cons_succ]
                                refine wpAnyH_take (i := 9) (oi := ?oi9u129) (v := ?v9u129) ?hi9u129 (by kernel_rfl) (by kernel_rfl) (by kernel_rfl) ?hQ9u129 (Or.inl ⟨?hw9u129, ?hy9u129⟩) hHeld ?rest9u129
                                case hi9u129 => (simp only [List.getElem?_toArray, List.getElem?_cons_succ, List.getElem?_cons_zero]; exact rfl)
                                case hQ9u129 => exact fun _ _ _ h => h
                                case hw9u129 => rfl
                                case hy9u129 => (intro w hSw; (try dsimp only at hSw); go_simp <;> with_reducible rfl)
                                try simp only [Act.put, List.setIfInBounds_toArray, List.set_cons_zero, List.set_cons_succ]
                                refine wpAnyH_take (i := 10) (oi := ?oi10u130) (v := ?v10u130) ?hi10u130 (by kernel_rfl) (by kernel_rfl) (by kernel_rfl) ?hQ10u130 (Or.inl ⟨?hw10u130, ?hy10u130⟩) hHeld ?rest10u130
                                case hi10u130 => (simp only [List.getElem?_toArray, List.getElem?_cons_succ, List.getElem?_cons_zero]; exact rfl)
                                case hQ10u130 => exact fun _ _ _ h => h
                                case hw10u130 => rfl
                                case hy10u130 => (intro w hSw; (try dsimp only at hSw); go_simp <;> with_reducible rfl)
                                try simp only [Act.put, List.setIfInBounds_toArray, List.set_cons_zero, List.set_cons_succ]
                                refine wpAnyH_done (by kernel_rfl) ?_ _
                                clear hHeld
                                go_wp2_with fail
                                go_meet
                                exact ⟨H4.out, A', n', c', rfl, rfl, HO.out, HC.out⟩
                          case rest =>
                            obtain ⟨hbn, hret⟩ := hcut
                            have hbr3 := hbr2.trans (hbn.mono hbr2.size)
                            have Hos3 := Lib.hid (OwnG.below (keepsBo _) Hos2.out hbn)
                            have Hov3 := Lib.hid (own_below Hov2.out hbn)
                            clear hbn Hos2 Hov2 hbr2
                            generalize wc = Z at *
                            cases G with
                            | none =>
                              obtain ⟨rfl, rfl⟩ := hret
                              go_wp2
                              refine bodyPost_ret (v := .bool true) (by simp [results, Try.results4, go_sem, *]) rfl ?_
                              exact ⟨rfl, HbX.out.trans (hbr3.mono HbX.out.size)⟩
                            | some u =>
                              obtain ⟨A', n', c', rfl, rfl, hou, hwu⟩ := hret
                              have hzg := HG.out
                              have hul := getF_len hzg
                              have hgF : getF L (atA b k).toNat = some u := by rw [Hzz.out, Int.toNat_natCast]; exact hzg
                              have HgF := Lib.hid hgF
                              have Hou := Lib.hid hou
                              have Hos_len := Lib.hid Hos3.out.len
                              have Hwu := Lib.hid hwu
                              have hnu : n' = u.length := by have := hou.1; rw [flatC_len] at this; omega
                              subst hnu
                              have Hss := Lib.hid (fun wx (hb : Below Z.heap.size Z wx) (A9 : Option Addr) (hL : IsC wx A9 1 1 [⟨1, ⟨#[]⟩, (k : Int)⟩]) => (rSame_any A' A9 u.length 1 c' 1 u [⟨1, ⟨#[]⟩, (k : Int)⟩] wx (⟨Sl.own (own_below Hou.out hb) (by omega), Hwu.out⟩) hL (by omega) (by omega)).mono fun _ _ h => h.v)
                              clear hzg hou hwu hgF
                              have Hwk : Hid (∀ x ∈ [(⟨1, ⟨#[]⟩, (k : Int)⟩ : C)], x.wf) := Lib.hid (by
                                intro x hx
                                simp at hx
                                subst hx
                                exact ⟨by unfold i64; simp, by unfold i64; simp; omega, by simp [maxLen, ByteArray.size]⟩)
                              cases hsm : sameC u [⟨1, ⟨#[]⟩, (k : Int)⟩]
                              · simp only [hsm] at Hss
                                obtain ⟨vs, v1, v2, v3, v4⟩ := Hos3.out.rows
                                have Hbk2 := Lib.hid (hbk.out.more HgF.out hul)
                                have V3 := Lib.hid v3
                                clear hsm hul v3
                                go_wp2_with fail
                                refine (cv8_any _ _).mono ?_
                                rintro e wn ⟨rfl, hbn⟩
                                have hlit := isC_lit8 (w := wn.alloc (.cells #[.int .i64 1, .string ⟨#[]⟩, .int .i64 (k : Int)] 54)) (g := wn.heap.size) (n := 1) (alloc_at rfl) rfl rfl (by omega) Hwk.out
                                have Hs2 := Lib.hid (Hss.out _ (hbn.alloc hbn.size _) _ hlit)
                                have Hbn := Lib.hid hbn
                                have hsn := hbn.size
                                clear hlit hbn Hss
                                go_upto_region 25 with (first
                                  | (go_at_call 28; go_must (refine Hs2.out.mono ?_); rintro e wm ⟨rfl, hbm⟩))
                                have hbn := Hbn.out
                                clear Hs2 Hbn
                                have hbZ : Below Z.heap.size Z wm := (hbn.alloc hbn.size _).trans (hbm.mono (by have := hbn.size; simp; omega))
                                have V3m := Lib.hid (own_below V3.out hbZ)
                                have V4m := Lib.hid (fun i x v hx hv => keepsBo X.heap.size _ _ _ _ (v4 i x v hx hv) hbZ)
                                have Hou2 := Lib.hid (own_below Hou.out hbZ)
                                have Hov4 := Lib.hid (own_below Hov3.out hbZ)
                                have hbr4 := hbr3.trans (hbZ.mono hbr3.size)
                                have hwm := hbr4.size
                                clear hbn hbm v4 Hos3 Hov3 Hou V3 hsn
                                go_wp2_with (first
                                  | (at_builtin; go_must (refine wpList_append_sl rfl (.tmp 194) (.tmp 198) 50 rfl X.heap.size 57 Try.underlying50 infoBd rfl (by omega) rfl (V3m.out.alloc _) rfl (Sl.lit wm _ [.int .i64 (k : Int), .slice A' u.length c'] 57 2 1 rfl rfl (by simp [maxLen])) (one_bd _ _ _ _) (by omega) (by omega) (by simp; omega) ?_); intro A9 cap9 w9 hown9 hb9 hgr9 hblk9))
                                have hos9 := bo_snoc (p := ((k : Int), u)) v1 v2 V3m.out V4m.out Hos_len.out Hou2.out Hwu.out (by unfold i64; simp; omega) hown9 hgr9
                                have hov9 : w9.ownsRow X.heap.size 3 1 (.slice Av nv cv) nv ((varsF T.flat).map (Value.int .i64)) := own_at Hov4.out (fun a ha => by
                                  have hlt9 := (Own0.lt Hov4.out a ha).2
                                  refine (grown_block (g := a.block) hgr9 (by simp; omega) ?_).trans (alloc_past hlt9)
                                  intro b9 hb9'
                                  subst hb9'
                                  obtain ⟨cur, hcur⟩ := own_typ V3m.out
                                  exact fun e => own_ne Hov4.out hcur (by intro cur' he; injection he with f1 f2 f3; exact absurd f2 (by decide)) a ha e.symm)
                                go_roundw
                                case rel => exact ⟨k + 1, q + 1, cap9, A9, s ++ [((k : Int), u)], by omega, by go_num, rfl, by omega, hos9, hov9, Hbk2, hbr4.trans (((Below.refl _ _).alloc hwm _).trans hb9)⟩
                                case measure => simp [intOf]; omega
                              · simp only [hsm] at Hss
                                have hu := (sameC_iff _ _).1 hsm
                                have Hbk2 := Lib.hid (hbk.out.own (by rw [HgF.out, hu]))
                                clear hsm hul hu
                                go_wp2_with fail
                                refine (cv8_any _ _).mono ?_
                                rintro e wn ⟨rfl, hbn⟩
                                have hlit := isC_lit8 (w := wn.alloc (.cells #[.int .i64 1, .string ⟨#[]⟩, .int .i64 (k : Int)] 54)) (g := wn.heap.size) (n := 1) (alloc_at rfl) rfl rfl (by omega) Hwk.out
                                have Hs2 := Lib.hid (Hss.out _ (hbn.alloc hbn.size _) _ hlit)
                                have Hbn := Lib.hid hbn
                                have hsn := hbn.size
                                clear hlit hbn Hss
                                go_wp2_with (first
                                  | (go_at_call 28; go_must (refine Hs2.out.mono ?_); rintro e wm ⟨rfl, hbm⟩))
                                have hbn := Hbn.out
                                clear Hs2 Hbn
                                have hbZ : Below Z.heap.size Z wm := (hbn.alloc hbn.size _).trans (hbm.mono (by have := hbn.size; simp; omega))
                                go_roundw
                                case rel => exact ⟨k + 1, q, c9, As, s, by omega, by go_num, rfl, by omega, OwnG.below (keepsBo _) Hos3.out hbZ, own_below Hov3.out hbZ, Hbk2, hbr3.trans (hbZ.mono hbr3.size)⟩
                                case measure => simp [intOf]; omega
                    · have hz : ¬ (k : Int) ≤ 999 := by omega
                      have hk8 : k = 1000 := by omega
                      have hbk8 := hbk.out
                      rw [hk8] at hbk8
                      have hdone := BackI.done Hpok.out hTok hbk8
                      have hgz : getZ L (P : Int) = getF L P := by
                        unfold getZ
                        rw [if_pos (by omega), Int.toNat_natCast]
                      have Hg2 := Lib.hid (fun wx (hb : Below X.heap.size X wx) => by have := Hg.out wx hb (P : Int); rw [hgz, hdone] at this; exact this)
                      have Hap := Lib.hid (rApply_any As Aq q c9 T.flat.length cq s T.flat wr (bo_is Hos.out) (HCq.out.below hbr) (by omega) (by omega) (fun p hp => by have := (hbk8.low p hp).2.2; omega))
                      have hul : ∀ u, applyB s T.flat = some u → u.length ≤ 200 := fun u hu => by
                        unfold applyB at hu
                        split at hu
                        · injection hu with hu
                          subst hu
                          assumption
                        · cases hu
                      generalize applyB s T.flat = G at *
                      obtain ⟨y0, y1, y2, yl⟩ := HY2.out _ hbr
                      obtain ⟨z0, z1, z2, zl⟩ := HYq.out _ hbr
                      clear hk8 hbk8 hdone hgz hbk Hos Hov
                      go_wp2_with fail
                      refine Hap.out.mono ?_
                      rintro e w1 hap
                      unfold RetAp at hap
                      obtain ⟨hb1, hap⟩ := hap
                      have hbr1 := hbr.trans (hb1.mono hbr.size)
                      clear y0 y1 y2 yl z0 z1 z2 zl hb1 hbr Hap
                      obtain ⟨y0, y1, y2, yl⟩ := HY2.out _ hbr1
                      cases G with
                      | none =>
                        simp only at hap
                        subst hap
                        go_wp2_with fail
                        refine (Hg2.out _ hbr1).mono ?_
                        rintro e w2 hg
                        unfold RetGetO at hg
                        obtain ⟨hb2, hg⟩ := hg
                        simp only at hg
                        subst hg
                        go_wp2
                        refine bodyPost_ret (v := .bool true) (by simp [results, Try.results4, go_sem, *]) rfl ?_
                        exact ⟨rfl, HbX.out.trans ((hbr1.trans (hb2.mono hbr1.size)).mono HbX.out.size)⟩
                      | some u =>
                        simp only at hap
                        obtain ⟨A7, n7, c7, rfl, hC7⟩ := hap
                        have hu := hul u rfl
                        clear hul
                        go_wp2_with fail
                        refine (Hg2.out _ hbr1).mono ?_
                        rintro e w2 hg
                        unfold RetGetO at hg
                        obtain ⟨hb2, hg⟩ := hg
                        simp only at hg
                        obtain ⟨A8, n8, c8, rfl, hC8, _⟩ := hg
                        have Hss := Lib.hid (terms_yes hC8 (hC7.below hb2) (by have := hC8.len; omega) (by have := hC7.len; omega))
                        clear hC7 hC8 hu
                        go_wp2_with fail
                        refine Hss.out.mono ?_
                        rintro e w3 ⟨rfl, hb3⟩
                        go_wp2
                        refine bodyPost_ret (v := .bool true) (by simp [results, Try.results4, go_sem, *]) rfl ?_
                        exact ⟨rfl, HbX.out.trans ((hbr1.trans ((hb2.trans (hb3.mono hb2.size)).mono hbr1.size)).mono HbX.out.size)⟩
      · subst o2 o3 o4 o5 o6
        have hpr : pRes l T F r = l := by unfold pRes; rw [if_neg o1]
        rw [hpr] at hBx
        obtain ⟨A1, c1, B1, d1, ⟨hC1, hN1⟩, hY1⟩ := hB.open
        obtain ⟨A2, c2, B2, d2, ⟨hC2, hN2⟩, hY2⟩ := hBx.open
        have Hs := Lib.hid (sames8 Hok.out hC2 hN2 hC1 hN1)
        obtain ⟨y0, y1, y2, yl⟩ := hY1 _ (Below.refl _ _)
        obtain ⟨z0, z1, z2, zl⟩ := hY2 _ (Below.refl _ _)
        clear hY1 hY2 hC1 hN1 hC2 hN2 hB hBx hO o1 hpr
        go_wp2_with (first | (go_at_call 14; go_must (refine Hs.out.mono ?_); rintro e4 w4 ⟨rfl, hbn⟩))
        refine bodyPost_ret (v := .bool true) (by simp [results, Try.results4, go_sem, *]) rfl ?_
        exact ⟨rfl, hbX.trans (hbn.mono hbX.size)⟩
end Go.Proofs.Ytlndjooddkjnoaa
