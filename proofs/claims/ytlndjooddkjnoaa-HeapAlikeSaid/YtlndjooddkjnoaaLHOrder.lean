/- The walk of the law HeapOrder. -/
import Derived.WalkMore
import Derived.Test.YtlndjooddkjnoaaC4
import Derived.Test.YtlndjooddkjnoaaB7
set_option linter.unusedVariables false
set_option linter.unusedSimpArgs false
namespace Go.Proofs.Ytlndjooddkjnoaa
open Go.RowKit
theorem get8 {w : World} {A B : Option Addr} {c d : Nat} {r : Int} {l : List C} {tr : List Int} (h : IsC w A l.length c l) (ho : OkH ⟨l, tr, r⟩) (x : Int) : Calls Try.prog 21 #[.agg #[.slice A l.length c, .slice B tr.length d, .int .i64 r], .int .i64 x] w (fun e w' => ∃ A' n' c', e = .returned (.tuple #[.slice A' n' c', .bool (getZ l x).isSome]) ∧ IsC w' A' n' c' ((getZ l x).getD []) ∧ Below w.heap.size w w') := by
  obtain ⟨h1, h2⟩ := ho.tr_len
  refine (hGet_any A B l.length c tr.length d r x l w h ho.good (by omega)).mono fun e w' hh => ?_
  unfold RetGet at hh
  obtain ⟨hb, hh⟩ := hh
  cases hz : getZ l x with
  | none =>
    rw [hz] at hh
    exact ⟨none, 0, 0, hh, isC_nil8 _ _, hb⟩
  | some t =>
    rw [hz] at hh
    obtain ⟨A', n', c', e1, e2⟩ := hh
    exact ⟨A', n', c', e1, e2, hb⟩
theorem getZ_len {l : List C} (hg : Good l) (x : Int) : ((getZ l x).getD []).length ≤ 200 := by
  unfold getZ
  split
  · rename_i hx
    cases hz : getF l x.toNat with
    | none => simp
    | some t => exact ((right_iff t).1 (getF_right hg (by omega) hz)).2
  · simp
set_option maxRecDepth 100000 in
set_option maxHeartbeats 4000000 in
theorem heapOrder_walk (A : Option Addr) (n c : Nat) (l : List C) (B : Option Addr) (m d : Nat) (tr : List Int) (r : Int) (Aa : Option Addr) (na ca : Nat) (ta : List C) (a1 a2 : Int) (w : World)
    (h : IsC w A n c l) (hT : IsI w B m d tr) (hr : i64 r) (hta : IsC w Aa na ca ta) (ia1 : i64 a1) (ia2 : i64 a2) :
    Calls Try.prog 7 #[.agg #[.slice A n c, .slice B m d, .int .i64 r], .agg #[.slice Aa na ca, .int .i64 a1, .int .i64 a2]] w (RetV w (.bool true)) := by
  cases hmay : mayH l tr r
  · go_enter Try.func7, Try.ntmps7
    go_upto_region 1 with fail
    refine wp_world' (Φ := fun X => Below w.heap.size w X ∧ HB X w.heap.size l tr r ∧ OB X (w.heap.size + 1) ta a1 a2) ⟨(bas _ _).alloc (by simp) _, (HB.box h hT).below (bas _ _), by have := OB.box (a := a1) (b := a2) (hta.below (bas w (.cells #[.slice A n c, .slice B m d, .int .i64 r] 25))); simpa using this⟩ ?_
    rintro X ⟨hbX, hB, hO⟩
    obtain ⟨g1, hg1⟩ : ∃ g1, g1 = w.heap.size + 1 := ⟨_, rfl⟩
    obtain ⟨g0, hg0⟩ : ∃ g0, g0 = w.heap.size := ⟨_, rfl⟩
    rw [← hg1] at hO
    rw [← hg0] at hB
    try rw [← hg1]
    try rw [← hg0]
    clear hg0 hg1
    go_wp2_with fail
    refine (head8_any _).mono ?_
    rintro e w1 ⟨rfl, hbn⟩
    replace hB := hB.below hbn
    replace hO := hO.below hbn
    replace hbX := hbX.trans (hbn.mono hbX.size)
    clear hbn
    generalize w1 = X at *
    obtain ⟨A1, c1, B1, d1, ⟨hC1, hN1⟩, hY⟩ := hB.open
    have hm := may8 (r := r) hC1 hN1
    obtain ⟨y0, y1, y2, yl⟩ := hY _ (Below.refl _ _)
    rw [hmay] at hm
    clear hY hC1 hN1
    go_wp2_with fail
    refine hm.mono ?_
    rintro e2 w2 ⟨rfl, hbn⟩
    clear y0 y1 y2 yl hm
    replace hB := hB.below hbn
    replace hO := hO.below hbn
    replace hbX := hbX.trans (hbn.mono hbX.size)
    clear hbn
    generalize w2 = X at *
    go_wp2
    refine bodyPost_ret (v := .bool true) (by simp [results, Try.results7, go_sem, *]) rfl ?_
    exact ⟨rfl, hbX⟩
  obtain ⟨_, _, hok⟩ := mayH_iff hmay
  have hll := hok.tr_len
  have Hok := Lib.hid hok
  obtain ⟨ok1, len1, ds1, hs1⟩ := uni_ok hok a1 a2
  have Ok1 := Lib.hid ok1
  have hcm := uniZ_comm l tr a1 a2
  have hcr : uRes l tr a2 a1 = uRes l tr a1 a2 := by unfold uRes; rw [hcm]
  have Hcm := Lib.hid hcm
  have Hcr := Lib.hid hcr
  have hL : (uRes l tr a1 a2).1.length ≤ 4096 := ok1.tr_len.1
  have HL := Lib.hid hL
  have Len1 := Lib.hid len1
  clear hok ok1 hs1 hcm hcr hL len1
  go_enter Try.func7, Try.ntmps7
  go_upto_region 1 with fail
  refine wp_world' (Φ := fun X => Below w.heap.size w X ∧ HB X w.heap.size l tr r ∧ OB X (w.heap.size + 1) ta a1 a2) ⟨(bas _ _).alloc (by simp) _, (HB.box h hT).below (bas _ _), by have := OB.box (a := a1) (b := a2) (hta.below (bas w (.cells #[.slice A n c, .slice B m d, .int .i64 r] 25))); simpa using this⟩ ?_
  rintro X ⟨hbX, hB, hO⟩
  obtain ⟨g1, hg1⟩ : ∃ g1, g1 = w.heap.size + 1 := ⟨_, rfl⟩
  obtain ⟨g0, hg0⟩ : ∃ g0, g0 = w.heap.size := ⟨_, rfl⟩
  rw [← hg1] at hO
  rw [← hg0] at hB
  try rw [← hg1]
  try rw [← hg0]
  clear hg0 hg1
  go_wp2_with fail
  refine (head8_any _).mono ?_
  rintro e w1 ⟨rfl, hbn⟩
  replace hB := hB.below hbn
  replace hO := hO.below hbn
  replace hbX := hbX.trans (hbn.mono hbX.size)
  clear hbn
  generalize w1 = X at *
  obtain ⟨A1, c1, B1, d1, ⟨hC1, hN1⟩, hY⟩ := hB.open
  have hm := may8 (r := r) hC1 hN1
  obtain ⟨y0, y1, y2, yl⟩ := hY _ (Below.refl _ _)
  rw [hmay] at hm
  clear hY hC1 hN1
  go_wp2_with fail
  refine hm.mono ?_
  rintro e2 w2 ⟨rfl, hbn⟩
  clear y0 y1 y2 yl hm
  replace hB := hB.below hbn
  replace hO := hO.below hbn
  replace hbX := hbX.trans (hbn.mono hbX.size)
  clear hbn
  generalize w2 = X at *
  go_upto_region 4 with fail
  go_cut [6, 7] from 26 to 34 (fun v1 v2 wx => ∃ gx : Nat, v1 = .pointer (some ⟨gx, 0, none⟩) ∧ v2 = .bool (uniZ l tr a1 a2).isSome ∧ HB wx gx (uRes l tr a1 a2).1 (uRes l tr a1 a2).2 r ∧ Below X.heap.size X wx)
  case first =>
    obtain ⟨A1, c1, B1, d1, ⟨hC1, hN1⟩, hY⟩ := hB.open
    obtain ⟨Aq, cq, hCq, hYq⟩ := hO.open
    obtain ⟨y0, y1, y2, yl⟩ := hY _ (Below.refl _ _)
    obtain ⟨z0, z1, z2, zl⟩ := hYq _ (Below.refl _ _)
    have Hu := Lib.hid (uni8 hC1 hN1 Hok.out a1 a2)
    clear hY hYq hO hB hC1 hN1 hCq
    generalize (uniZ l tr a1 a2).isSome = is1 at *
    generalize uRes l tr a1 a2 = q at *
    go_wp2_with (first | (go_at_call 23; go_must (refine Hu.out.mono ?_); rintro e wn ⟨A5, c5, B5, d5, rfl, hC5, hN5, hbn, _⟩))
    go_meet
    exact ⟨wn.heap.size, rfl, rfl, ⟨A5, c5, B5, d5, alloc_at rfl, hC5.below (bas _ _), hN5.below (bas _ _)⟩, hbn.alloc hbn.size _⟩
  case rest =>
    obtain ⟨gx, rfl, rfl, hBx, hbn⟩ := hcut
    replace hB := hB.below hbn
    replace hO := hO.below hbn
    replace hbX := hbX.trans (hbn.mono hbX.size)
    clear hbn
    generalize wc = X at *
    go_upto_region 5 with fail
    go_cut [8, 9] from 35 to 43 (fun v1 v2 wx => ∃ gy : Nat, v1 = .pointer (some ⟨gy, 0, none⟩) ∧ v2 = .bool (uniZ l tr a1 a2).isSome ∧ HB wx gy (uRes l tr a1 a2).1 (uRes l tr a1 a2).2 r ∧ Below X.heap.size X wx)
    case first =>
      obtain ⟨A1, c1, B1, d1, ⟨hC1, hN1⟩, hY⟩ := hB.open
      obtain ⟨Aq, cq, hCq, hYq⟩ := hO.open
      obtain ⟨y0, y1, y2, yl⟩ := hY _ (Below.refl _ _)
      obtain ⟨z0, z1, z2, zl⟩ := hYq _ (Below.refl _ _)
      have hu := uni8 hC1 hN1 Hok.out a2 a1
      rw [Hcm.out, Hcr.out] at hu
      have Hu := Lib.hid hu
      clear hY hYq hO hB hC1 hN1 hCq hBx hu
      generalize (uniZ l tr a1 a2).isSome = is1 at *
      generalize uRes l tr a1 a2 = q at *
      go_wp2_with (first | (go_at_call 23; go_must (refine Hu.out.mono ?_); rintro e wn ⟨A5, c5, B5, d5, rfl, hC5, hN5, hbn, _⟩))
      go_meet
      exact ⟨wn.heap.size, rfl, rfl, ⟨A5, c5, B5, d5, alloc_at rfl, hC5.below (bas _ _), hN5.below (bas _ _)⟩, hbn.alloc hbn.size _⟩
    case rest =>
      obtain ⟨gy, rfl, rfl, hBy, hbn⟩ := hcut
      replace hB := hB.below hbn
      replace hO := hO.below hbn
      replace hbX := hbX.trans (hbn.mono hbX.size)
      replace hBx := hBx.below hbn
      clear hbn
      generalize wc = X at *
      cases hz : uniZ l tr a1 a2 with
      | none =>
        have he : uRes l tr a1 a2 = (l, tr) := by unfold uRes; rw [hz]; rfl
        rw [he] at hBx hBy
        rw [Option.isSome_none]
        obtain ⟨A1, c1, B1, d1, ⟨hC1, hN1⟩, hY1⟩ := hBx.open
        obtain ⟨A2, c2, B2, d2, ⟨hC2, hN2⟩, hY2⟩ := hBy.open
        obtain ⟨A3, c3, B3, d3, ⟨hC3, hN3⟩, hY3⟩ := hB.open
        simp only at hY1 hY2
        have HY1 := Lib.hid hY1
        have HY2 := Lib.hid hY2
        have HY3 := Lib.hid hY3
        have Hsa := Lib.hid (fun wx (hb : Below X.heap.size X wx) => sames8 Hok.out (hC1.below hb) (hN1.below hb) (hC3.below hb) (hN3.below hb))
        have Hsb := Lib.hid (fun wx (hb : Below X.heap.size X wx) => sames8 Hok.out (hC2.below hb) (hN2.below hb) (hC3.below hb) (hN3.below hb))
        clear hY1 hY2 hY3 hBx hBy hB hO hC1 hN1 hC2 hN2 hC3 hN3 hz he
        go_upto_region 9 with fail
        obtain ⟨p0, p1, p2, pl⟩ := HY1.out _ (Below.refl _ _)
        obtain ⟨q0, q1, q2, ql⟩ := HY3.out _ (Below.refl _ _)
        go_wp2_with fail
        refine (Hsa.out _ (Below.refl _ _)).mono ?_
        rintro e5 w5 ⟨rfl, hb5⟩
        clear p0 p1 p2 pl q0 q1 q2 ql
        obtain ⟨p0, p1, p2, pl⟩ := HY2.out _ hb5
        obtain ⟨q0, q1, q2, ql⟩ := HY3.out _ hb5
        go_wp2_with fail
        refine (Hsb.out _ hb5).mono ?_
        rintro e6 w6 ⟨rfl, hb6⟩
        go_wp2
        refine bodyPost_ret (v := .bool true) (by simp [results, Try.results7, go_sem, *]) rfl ?_
        exact ⟨rfl, hbX.trans ((hb5.trans (hb6.mono hb5.size)).mono hbX.size)⟩
      | some u =>
        obtain ⟨L, TR⟩ := u
        have he : uRes l tr a1 a2 = (L, TR) := by unfold uRes; rw [hz]; rfl
        obtain ⟨⟨p, q, hap, haq, hpl, hql, hden⟩, hag⟩ := uniZ_alike Hok.out hz
        rw [he] at hBx hBy Ok1 HL
        simp only at hBx hBy Ok1 HL
        have hLl : L.length = l.length := by have := Len1.out; rw [he] at this; exact this
        have hgeq : getZ L a1 = getZ L a2 := by
          unfold getZ
          rw [if_pos (by omega), if_pos (by omega), hap, haq]
          exact getF_alike hden
        have Hgeq := Lib.hid hgeq
        have Hag := Lib.hid hag
        rw [Option.isSome_some]
        clear hz he hag hgeq hden hap haq hpl hql Len1 Hcm Hcr
        have HLl := Lib.hid hLl
        clear hLl
        go_upto_region 10 with fail
        go_cut [10, 11] from 60 to 68 (fun v1 v2 wx => ∃ gc : Nat, v1 = .pointer (some ⟨gc, 0, none⟩) ∧ v2 = .bool true ∧ HB wx gc L TR r ∧ Below X.heap.size X wx)
        case first =>
          obtain ⟨A1, c1, B1, d1, ⟨hC1, hN1⟩, hY⟩ := hBx.open
          obtain ⟨Aq, cq, hCq, hYq⟩ := hO.open
          obtain ⟨y0, y1, y2, yl⟩ := hY _ (Below.refl _ _)
          obtain ⟨z0, z1, z2, zl⟩ := hYq _ (Below.refl _ _)
          have hu := uni8 hC1 hN1 Ok1.out a2 a1
          rw [show uRes L TR a2 a1 = (L, TR) by unfold uRes; rw [Hag.out]; rfl, Hag.out] at hu
          have Hu := Lib.hid hu
          clear hY hYq hO hB hC1 hN1 hCq hBx hBy hu
          go_wp2_with (first | (go_at_call 23; go_must (refine Hu.out.mono ?_); rintro e wn ⟨A5, c5, B5, d5, rfl, hC5, hN5, hbn, _⟩))
          go_meet
          exact ⟨wn.heap.size, rfl, rfl, ⟨A5, c5, B5, d5, alloc_at rfl, hC5.below (bas _ _), hN5.below (bas _ _)⟩, hbn.alloc hbn.size _⟩
        case rest =>
          obtain ⟨gc, rfl, rfl, hBc, hbn⟩ := hcut
          replace hB := hB.below hbn
          replace hO := hO.below hbn
          replace hbX := hbX.trans (hbn.mono hbX.size)
          replace hBx := hBx.below hbn
          replace hBy := hBy.below hbn
          clear hbn
          generalize wc = X at *
          obtain ⟨A1, c1, B1, d1, ⟨hC1, hN1⟩, hY1⟩ := hBx.open
          obtain ⟨A2, c2, B2, d2, ⟨hC2, hN2⟩, hY2⟩ := hBy.open
          obtain ⟨A3, c3, B3, d3, ⟨hC3, hN3⟩, hY3⟩ := hB.open
          obtain ⟨A4, c4, B4, d4, ⟨hC4, hN4⟩, hY4⟩ := hBc.open
          obtain ⟨A5, c5, hC5, hY5⟩ := hO.open
          have HY1 := Lib.hid hY1
          have HY2 := Lib.hid hY2
          have HY3 := Lib.hid hY3
          have HY4 := Lib.hid hY4
          have HY5 := Lib.hid hY5
          have Hg1 := Lib.hid (fun wx (hb : Below X.heap.size X wx) (x : Int) => get8 (B := B1) (d := d1) (hC1.below hb) Ok1.out x)
          have Hg2 := Lib.hid (fun wx (hb : Below X.heap.size X wx) (x : Int) => get8 (B := B2) (d := d2) (hC2.below hb) Ok1.out x)
          have Hsc := Lib.hid (fun wx (hb : Below X.heap.size X wx) => sames8 Ok1.out (hC4.below hb) (hN4.below hb) (hC1.below hb) (hN1.below hb))
          have Hlen := Lib.hid (fun x => getZ_len Ok1.out.good x)
          have HbX := Lib.hid hbX
          clear hY1 hY2 hY3 hY4 hY5 hC1 hN1 hC2 hN2 hC3 hN3 hC4 hN4 hC5 hBx hBy hBc hB hO hbX
          refine ‹∀ (a : Act) (w : World), Code.wp _ _ _ a w → _› _ _ ?_
          go_wp2
          go_loopw [12, 13, 14, 15, 16] (fun iv _ _ _ _ wr => ∃ i : Nat, i ≤ l.length ∧ iv = .int .i64 i ∧ Below X.heap.size X wr) (fun iv _ _ _ _ _ => l.length - (intOf iv).toNat)
          case atStart => exact ⟨0, Nat.zero_le _, rfl, Below.refl _ _⟩
          case round =>
            obtain ⟨i, hi, rfl, hbr⟩ := hrel
            obtain ⟨p0, p1, p2, pl⟩ := HY3.out _ hbr
            by_cases hlt : i < l.length
            · have hz : (i : Int) < (l.length : Int) := by omega
              go_upto_region 14 with fail
              clear p0 p1 p2 pl
              obtain ⟨p0, p1, p2, pl⟩ := HY1.out _ hbr
              go_wp2_with fail
              refine (Hg1.out _ hbr i).mono ?_
              rintro e5 w5 ⟨A6, n6, c6, rfl, hC6, hb5⟩
              have hbr5 := hbr.trans (hb5.mono hbr.size)
              clear p0 p1 p2 pl
              obtain ⟨p0, p1, p2, pl⟩ := HY2.out _ hbr5
              have HC6 := Lib.hid hC6
              clear hC6 hb5
              go_wp2_with fail
              refine (Hg2.out _ hbr5 i).mono ?_
              rintro e6 w6 ⟨A7, n7, c7, rfl, hC7, hb6⟩
              have hbr6 := hbr5.trans (hb6.mono hbr5.size)
              have hl6 := Hlen.out i
              have Hss := Lib.hid (terms_yes (HC6.out.below hb6) hC7 (by have := HC6.out.len; omega) (by have := hC7.len; omega))
              clear p0 p1 p2 pl HC6 hC7 hb6 hl6
              generalize (getZ L (i : Int)).isSome = bz at *
              generalize (getZ L (i : Int)).getD [] = tz at *
              cases bz
              · go_wp2_with fail
                refine Hss.out.mono ?_
                rintro e7 w7 ⟨rfl, hb7⟩
                go_wp2
                go_roundw
                case rel => exact ⟨i + 1, by omega, by go_num, hbr6.trans (hb7.mono hbr6.size)⟩
                case measure => simp [intOf]; omega
              · go_wp2_with fail
                refine Hss.out.mono ?_
                rintro e7 w7 ⟨rfl, hb7⟩
                go_wp2
                go_roundw
                case rel => exact ⟨i + 1, by omega, by go_num, hbr6.trans (hb7.mono hbr6.size)⟩
                case measure => simp [intOf]; omega
            · have hz : ¬ (i : Int) < (l.length : Int) := by omega
              go_upto_region 18 with fail
              clear p0 p1 p2 pl
              obtain ⟨p0, p1, p2, pl⟩ := HY1.out _ hbr
              obtain ⟨q0, q1, q2, ql⟩ := HY5.out _ hbr
              go_wp2_with fail
              refine (Hg1.out _ hbr a1).mono ?_
              rintro e5 w5 ⟨A6, n6, c6, rfl, hC6, hb5⟩
              have hbr5 := hbr.trans (hb5.mono hbr.size)
              clear p0 p1 p2 pl q0 q1 q2 ql
              obtain ⟨p0, p1, p2, pl⟩ := HY1.out _ hbr5
              obtain ⟨q0, q1, q2, ql⟩ := HY5.out _ hbr5
              have HC6 := Lib.hid hC6
              have hg2 := Hg1.out _ hbr5 a2
              rw [← Hgeq.out] at hg2
              have Hg3 := Lib.hid hg2
              clear hC6 hb5 hg2
              go_wp2_with fail
              refine Hg3.out.mono ?_
              rintro e6 w6 ⟨A7, n7, c7, rfl, hC7, hb6⟩
              have hbr6 := hbr5.trans (hb6.mono hbr5.size)
              have hl6 := Hlen.out a1
              have HC6' := Lib.hid (HC6.out.below hb6)
              have HC7 := Lib.hid hC7
              have hn6 : n6 ≤ 1000 := by have := HC6.out.len; omega
              have hn7 : n7 ≤ 1000 := by have := hC7.len; omega
              clear p0 p1 p2 pl q0 q1 q2 ql hC7 hb6 hl6 HC6 Hg3
              obtain ⟨p0, p1, p2, pl⟩ := HY1.out _ hbr6
              obtain ⟨q0, q1, q2, ql⟩ := HY4.out _ hbr6
              generalize (getZ L a1).isSome = bz at *
              generalize (getZ L a1).getD [] = tz at *
              have hbb : ∀ w, (binOp .eql 4 (.bool bz) (.bool bz)).run Try.prog w = .ok (.bool true) w := by intro w; cases bz <;> kernel_rfl
              go_wp2_with fail
              refine (Hsc.out _ hbr6).mono ?_
              rintro e7 w7 ⟨rfl, hb7⟩
              clear p0 p1 p2 pl q0 q1 q2 ql
              go_wp2_with fail
              refine (terms_yes (HC6'.out.below hb7) (HC7.out.below hb7) hn6 hn7).mono ?_
              rintro e8 w8 ⟨rfl, hb8⟩
              go_wp2
              refine bodyPost_ret (v := .bool true) (by simp [results, Try.results7, go_sem, *]) rfl ?_
              exact ⟨rfl, HbX.out.trans ((hbr6.trans ((hb7.trans (hb8.mono hb7.size)).mono hbr6.size)).mono HbX.out.size)⟩
end Go.Proofs.Ytlndjooddkjnoaa
