/- The walk of the law HeapUndone. -/
import Derived.WalkMore
import Derived.Test.YtlndjooddkjnoaaLH2
import Derived.Test.YtlndjooddkjnoaaB0
import Derived.Test.YtlndjooddkjnoaaHeld3
import Derived.Test.YtlndjooddkjnoaaB4
set_option linter.unusedVariables false
set_option linter.unusedSimpArgs false
namespace Go.Proofs.Ytlndjooddkjnoaa
open Go.RowKit
set_option maxRecDepth 100000 in
set_option maxHeartbeats 8000000 in
theorem heapUndone_walk (A : Option Addr) (n c : Nat) (l : List C) (B : Option Addr) (m d : Nat) (tr : List Int) (r : Int) (Aq : Option Addr) (nq cq : Nat) (ops : List Opr) (w : World) (h : IsC w A n c l) (hT : IsI w B m d tr) (hr : i64 r) (hq : IsOps w Aq nq cq ops) :
    Calls Try.prog 8 #[.agg #[.slice A n c, .slice B m d, .int .i64 r], .slice Aq nq cq] w (RetV w (.bool true)) := by
  cases hmay : mayH l tr r
  · go_enter Try.func8, Try.ntmps8
    go_upto_region 1 with fail
    refine wp_world' (Φ := fun X => Below w.heap.size w X ∧ HB X w.heap.size l tr r) ⟨bas _ _, HB.box h hT⟩ ?_
    rintro X ⟨hbX, hB⟩
    obtain ⟨g0, hg0⟩ : ∃ g0, g0 = w.heap.size := ⟨_, rfl⟩
    rw [← hg0] at hB ⊢
    clear hg0
    go_wp2_with fail
    refine (head8_any _).mono ?_
    rintro e w1 ⟨rfl, hbn⟩
    replace hB := hB.below hbn
    replace hbX := hbX.trans (hbn.mono hbX.size)
    clear hbn
    generalize w1 = X at *
    obtain ⟨A1, c1, B1, d1, ⟨hC1, hN1⟩, hY⟩ := hB.open
    have hm := may8 (r := r) hC1 hN1
    obtain ⟨y0, y1, y2, yl⟩ := hY _ (Below.refl _ _)
    rw [hmay] at hm
    clear hY hC1 hN1
    go_wp2_with fail
    refine hm.mono ?_
    rintro e2 w2 ⟨rfl, hbn⟩
    clear y0 y1 y2 yl hm
    replace hB := hB.below hbn
    replace hbX := hbX.trans (hbn.mono hbX.size)
    clear hbn
    generalize w2 = X at *
    go_wp2
    refine bodyPost_ret (v := .bool true) (by simp [results, Try.results8, go_sem, *]) rfl ?_
    exact ⟨rfl, hbX⟩
  obtain ⟨_, _, hok⟩ := mayH_iff hmay
  have Hok := Lib.hid hok
  have Hq := Lib.hid hq
  clear hok hq
  go_enter Try.func8, Try.ntmps8
  go_upto_region 1 with fail
  refine wp_world' (Φ := fun X => Below w.heap.size w X ∧ HB X w.heap.size l tr r) ⟨bas _ _, HB.box h hT⟩ ?_
  rintro X ⟨hbX, hB⟩
  obtain ⟨g0, hg0⟩ : ∃ g0, g0 = w.heap.size := ⟨_, rfl⟩
  rw [← hg0] at hB ⊢
  clear hg0
  go_wp2_with fail
  refine (head8_any _).mono ?_
  rintro e w1 ⟨rfl, hbn⟩
  replace hB := hB.below hbn
  replace hbX := hbX.trans (hbn.mono hbX.size)
  clear hbn
  generalize w1 = X at *
  obtain ⟨A1, c1, B1, d1, ⟨hC1, hN1⟩, hY⟩ := hB.open
  have hm := may8 (r := r) hC1 hN1
  obtain ⟨y0, y1, y2, yl⟩ := hY _ (Below.refl _ _)
  rw [hmay] at hm
  clear hY hC1 hN1
  go_wp2_with fail
  refine hm.mono ?_
  rintro e2 w2 ⟨rfl, hbn⟩
  clear y0 y1 y2 yl hm
  replace hB := hB.below hbn
  replace hbX := hbX.trans (hbn.mono hbX.size)
  clear hbn
  generalize w2 = X at *
  go_upto_region 4 with fail
  go_cut [6, 7, 8] from 21 to 24 (fun v6 v7 v8 wx => ∃ (gm gh : Nat) (Z : Option Addr), v6 = .pointer (some ⟨gm, 0, none⟩) ∧ v7 = .pointer (some ⟨gh, 0, none⟩) ∧ v8 = .slice Z 0 0 ∧ MB wx gm l.length tr.length ∧ HB wx gh l tr r ∧ X.heap.size ≤ gh ∧ gm ≠ gh ∧ Below X.heap.size X wx)
  case first =>
    obtain ⟨A1, c1, B1, d1, ⟨hC1, hN1⟩, hY⟩ := hB.open
    have HC1 := Lib.hid hC1
    have HN1 := Lib.hid hN1
    have hS : ∀ w', Below X.heap.size X w' → w'.cell? ⟨g0, 0, none⟩ = some (.slice A1 l.length c1) ∧ w'.cell? ⟨g0, 1, none⟩ = some (.slice B1 tr.length d1) ∧ w'.cell? ⟨g0, 2, none⟩ = some (.int .i64 r) := fun w' hb => by
      obtain ⟨p0, p1, p2, _⟩ := hY w' hb
      exact ⟨p0, p1, p2⟩
    refine wp_region_held_drew (S := fun w' => w'.cell? ⟨g0, 0, none⟩ = some (.slice A1 l.length c1) ∧ w'.cell? ⟨g0, 1, none⟩ = some (.slice B1 tr.length d1) ∧ w'.cell? ⟨g0, 2, none⟩ = some (.int .i64 r)) (by kernel_rfl) ?gs ?gr
    case gs => exact hS _ (Below.refl _ _).drew
    case gr =>
      intro hHeld
      have HS := Lib.hid hS
      have HV : Hid (Below X.heap.size X X.drew) := Lib.hid ((Below.refl _ _).drew)
      clear hS hY hC1 hN1 hB
      generalize X.drew = V at *

      refine wpAnyH_take (i := 0) (oi := ?oi0u1) (v := ?v0u1) ?hi0u1 (by kernel_rfl) (by kernel_rfl) (by kernel_rfl) ?hQ0u1 (Or.inl ⟨?hw0u1, ?hy0u1⟩) hHeld ?rest0u1
      case hi0u1 => (simp only [List.getElem?_toArray, List.getElem?_cons_succ, List.getElem?_cons_zero]; exact rfl)
      case hQ0u1 => exact fun _ _ _ h => h
      case hw0u1 => rfl
      case hy0u1 => (intro w hSw; (try dsimp only at hSw); go_simp <;> with_reducible rfl)
      try simp only [Act.put, List.setIfInBounds_toArray, List.set_cons_zero, List.set_cons_succ]
      refine wpAnyH_take (i := 2) (oi := ?oi2u2) (v := ?v2u2) ?hi2u2 (by kernel_rfl) (by kernel_rfl) (by kernel_rfl) ?hQ2u2 (Or.inl ⟨?hw2u2, ?hy2u2⟩) hHeld ?rest2u2
      case hi2u2 => (simp only [List.getElem?_toArray, List.getElem?_cons_succ, List.getElem?_cons_zero]; exact rfl)
      case hQ2u2 => exact fun _ _ _ h => h
      case hw2u2 => rfl
      case hy2u2 => (intro w hSw; (try dsimp only at hSw); go_simp <;> with_reducible rfl)
      try simp only [Act.put, List.setIfInBounds_toArray, List.set_cons_zero, List.set_cons_succ]
      refine held_four (i := 1) (j := 3) (k := 4) (m := 5) (oi := ?oi1u3) (oj := ?oi3u3) (ok := ?oi4u3) (om := ?oi5u3) (by kernel_rfl) ?hi1u3 ?hi3u3 ?hi4u3 ?hi5u3 (fun K hK => ?rest1u3) (fun K hK => ?rest3u3) (fun K hK => ?rest4u3) (fun K hK => ?rest5u3)
      case hi1u3 => (simp only [List.getElem?_toArray, List.getElem?_cons_succ, List.getElem?_cons_zero]; exact rfl)
      case hi3u3 => (simp only [List.getElem?_toArray, List.getElem?_cons_succ, List.getElem?_cons_zero]; exact rfl)
      case hi4u3 => (simp only [List.getElem?_toArray, List.getElem?_cons_succ, List.getElem?_cons_zero]; exact rfl)
      case hi5u3 => (simp only [List.getElem?_toArray, List.getElem?_cons_succ, List.getElem?_cons_zero]; exact rfl)
      · go_simp
        go_at_call 25
        refine (mark8 (n := 0) (e := 0) (D := none) Hok.out).mono ?_
        rintro e v1 ⟨rfl, hbq⟩
        have HW1 := Lib.hid (HV.out.trans (hbq.mono HV.out.size))
        clear hbq
        try go_simp
        refine hK _ _ (HS.out _ HW1.out) ?_
        clear hK K hHeld
        have hHeld := HS.out _ HW1.out
        try simp only [Act.put, List.setIfInBounds_toArray, List.set_cons_zero, List.set_cons_succ]
        refine held_three (i := 3) (j := 4) (k := 5) (oi := ?oi3u4) (oj := ?oi4u4) (ok := ?oi5u4) (by kernel_rfl) ?hi3u4 ?hi4u4 ?hi5u4 (fun K hK => ?rest3u4) (fun K hK => ?rest4u4) (fun K hK => ?rest5u4)
        case hi3u4 => (simp only [List.getElem?_toArray, List.getElem?_cons_succ, List.getElem?_cons_zero]; exact rfl)
        case hi4u4 => (simp only [List.getElem?_toArray, List.getElem?_cons_succ, List.getElem?_cons_zero]; exact rfl)
        case hi5u4 => (simp only [List.getElem?_toArray, List.getElem?_cons_succ, List.getElem?_cons_zero]; exact rfl)
        · have HW2 := Lib.hid (HW1.out.alloc HW1.out.size (.cells #[] 3))
          go_simp
          refine hK _ _ (HS.out _ HW2.out) ?_
          clear hK K hHeld
          have hHeld := HS.out _ HW2.out
          try simp only [Act.put, List.setIfInBounds_toArray, List.set_cons_zero, List.set_cons_succ]
          generalize v1.alloc (.cells #[] 3) = v2 at *
          generalize v1.heap.size = gz at *
          refine held_two (i := 4) (j := 5) (oi := ?oi4u5) (oj := ?oi5u5) (by kernel_rfl) ?hi4u5 ?hi5u5 (fun K hK => ?rest4u5) (fun K hK => ?rest5u5)
          case hi4u5 => (simp only [List.getElem?_toArray, List.getElem?_cons_succ, List.getElem?_cons_zero]; exact rfl)
          case hi5u5 => (simp only [List.getElem?_toArray, List.getElem?_cons_succ, List.getElem?_cons_zero]; exact rfl)
          · have HW3 := Lib.hid (HW2.out.alloc HW2.out.size (.cells #[.int .i64 0, .int .i64 0, .slice none 0 0] 43))
            go_simp
            refine hK _ _ (HS.out _ HW3.out) ?_
            clear hK K hHeld
            have hHeld := HS.out _ HW3.out
            try simp only [Act.put, List.setIfInBounds_toArray, List.set_cons_zero, List.set_cons_succ]
            have Zm3 := Lib.hid (show (v2.alloc (.cells #[.int .i64 0, .int .i64 0, .slice none 0 0] 43)).heap[v2.heap.size]? = some (.cells #[.int .i64 0, .int .i64 0, .slice none 0 0] 43 (0, 0)) from alloc_at rfl)
            have Nm : Hid (X.heap.size ≤ v2.heap.size) := Lib.hid HW2.out.size
            generalize v2.alloc (.cells #[.int .i64 0, .int .i64 0, .slice none 0 0] 43) = v3 at *
            generalize v2.heap.size = gm at *
            refine held_one (i := 5) (o := ?oi5u6) (by kernel_rfl) ?hi5u6 (fun K hK => ?rest5u6)
            case hi5u6 => (simp only [List.getElem?_toArray, List.getElem?_cons_succ, List.getElem?_cons_zero]; exact rfl)
            have HW4 := Lib.hid (HW3.out.alloc HW3.out.size (.cells #[.slice none 0 0, .slice none 0 0, .int .i64 0] 25))
            go_simp
            refine hK _ _ (HS.out _ HW4.out) ?_
            clear hK K hHeld
            have hHeld := HS.out _ HW4.out
            try simp only [Act.put, List.setIfInBounds_toArray, List.set_cons_zero, List.set_cons_succ]
            have Zm4 := Lib.hid (((bas v3 (.cells #[.slice none 0 0, .slice none 0 0, .int .i64 0] 25)).block _ (block_lt Zm3.out)).trans Zm3.out)
            have Zh4 := Lib.hid (show (v3.alloc (.cells #[.slice none 0 0, .slice none 0 0, .int .i64 0] 25)).heap[v3.heap.size]? = some (.cells #[.slice none 0 0, .slice none 0 0, .int .i64 0] 25 (0, 0)) from alloc_at rfl)
            have Nh : Hid (X.heap.size ≤ v3.heap.size) := Lib.hid HW3.out.size
            have Nd : Hid (gm ≠ v3.heap.size) := Lib.hid (Nat.ne_of_lt (block_lt Zm3.out))
            generalize v3.alloc (.cells #[.slice none 0 0, .slice none 0 0, .int .i64 0] 25) = v4 at *
            generalize v3.heap.size = gh at *
            have Nd2 : Hid (gm ≠ gh) := Lib.hid Nd.out
            refine held_one (i := 6) (o := ?oi6u7) (by kernel_rfl) ?hi6u7 (fun K hK => ?rest6u7)
            case hi6u7 => (simp only [List.getElem?_toArray, List.getElem?_cons_succ, List.getElem?_cons_zero]; exact rfl)
            obtain ⟨z0, z1, z2, zl, zf0, zf1, zf2⟩ := cells3 Zm4.out
            obtain ⟨F, hF, hm, hk⟩ := store_mark (n := l.length) (m := tr.length) Zm4.out
            have ZM5 := Lib.hid hm
            have Zh5 := Lib.hid ((hk.old gh (block_lt Zh4.out) (fun e => Nd2.out e.symm)).trans Zh4.out)
            have HW5 := Lib.hid (HW4.out.trans (hk.bel.mono Nm.out))
            go_simp
            rw [← hF]
            refine hK _ _ (HS.out _ HW5.out) ?_
            clear hK K hHeld
            have hHeld := HS.out _ HW5.out
            try simp only [Act.put, List.setIfInBounds_toArray, List.set_cons_zero, List.set_cons_succ]
            clear hF hk hm z0 z1 z2 zl zf0 zf1 zf2
            refine held_one (i := 7) (o := ?oi7u8) (by kernel_rfl) ?hi7u8 (fun K hK => ?rest7u8)
            case hi7u8 => (simp only [List.getElem?_toArray, List.getElem?_cons_succ, List.getElem?_cons_zero]; exact rfl)
            obtain ⟨z0, z1, z2, zl, zf0, zf1, zf2⟩ := cells3 Zh5.out
            obtain ⟨F, hF, hm, hk⟩ := store_heap (A := A1) (n := l.length) (c := c1) (B := B1) (m := tr.length) (d := d1) (r := r) Zh5.out
            have ZG6 := Lib.hid hm
            have ZM6 := Lib.hid (ZM5.out.kq hk Nd2.out)
            have HW6 := Lib.hid (HW5.out.trans (hk.bel.mono Nh.out))
            go_simp
            rw [← hF]
            refine hK _ _ (HS.out _ HW6.out) ?_
            clear hK K hHeld
            have hHeld := HS.out _ HW6.out
            try simp only [Act.put, List.setIfInBounds_toArray, List.set_cons_zero, List.set_cons_succ]
            clear hF hk hm z0 z1 z2 zl zf0 zf1 zf2
            refine wpAnyH_take (i := 8) (oi := ?oi8u9) (v := ?v8u9) ?hi8u9 (by kernel_rfl) (by kernel_rfl) (by kernel_rfl) ?hQ8u9 (Or.inl ⟨?hw8u9, ?hy8u9⟩) hHeld ?rest8u9
            case hi8u9 => (simp only [List.getElem?_toArray, List.getElem?_cons_succ, List.getElem?_cons_zero]; exact rfl)
            case hQ8u9 => exact fun _ _ _ h => h
            case hw8u9 => rfl
            case hy8u9 => (intro w hSw; (try dsimp only at hSw); go_simp <;> with_reducible rfl)
            try simp only [Act.put, List.setIfInBounds_toArray, List.set_cons_zero, List.set_cons_succ]
            refine wpAnyH_done (by kernel_rfl) ?_ _
            clear hHeld
            go_wp2_with fail
            go_meet
            exact ⟨gm, gh, _, rfl, rfl, rfl, ZM6.out, ⟨A1, c1, B1, d1, ZG6.out, HC1.out.below HW6.out, HN1.out.below HW6.out⟩, Nh.out, Nd2.out, HW6.out⟩
          · have HW3 := Lib.hid (HW2.out.alloc HW2.out.size (.cells #[.slice none 0 0, .slice none 0 0, .int .i64 0] 25))
            go_simp
            refine hK _ _ (HS.out _ HW3.out) ?_
            clear hK K hHeld
            have hHeld := HS.out _ HW3.out
            try simp only [Act.put, List.setIfInBounds_toArray, List.set_cons_zero, List.set_cons_succ]
            have Zh3 := Lib.hid (show (v2.alloc (.cells #[.slice none 0 0, .slice none 0 0, .int .i64 0] 25)).heap[v2.heap.size]? = some (.cells #[.slice none 0 0, .slice none 0 0, .int .i64 0] 25 (0, 0)) from alloc_at rfl)
            have Nh : Hid (X.heap.size ≤ v2.heap.size) := Lib.hid HW2.out.size
            generalize v2.alloc (.cells #[.slice none 0 0, .slice none 0 0, .int .i64 0] 25) = v3 at *
            generalize v2.heap.size = gh at *
            refine held_one (i := 4) (o := ?oi4u10) (by kernel_rfl) ?hi4u10 (fun K hK => ?rest4u10)
            case hi4u10 => (simp only [List.getElem?_toArray, List.getElem?_cons_succ, List.getElem?_cons_zero]; exact rfl)
            have HW4 := Lib.hid (HW3.out.alloc HW3.out.size (.cells #[.int .i64 0, .int .i64 0, .slice none 0 0] 43))
            go_simp
            refine hK _ _ (HS.out _ HW4.out) ?_
            clear hK K hHeld
            have hHeld := HS.out _ HW4.out
            try simp only [Act.put, List.setIfInBounds_toArray, List.set_cons_zero, List.set_cons_succ]
            have Zh4 := Lib.hid (((bas v3 (.cells #[.int .i64 0, .int .i64 0, .slice none 0 0] 43)).block _ (block_lt Zh3.out)).trans Zh3.out)
            have Zm4 := Lib.hid (show (v3.alloc (.cells #[.int .i64 0, .int .i64 0, .slice none 0 0] 43)).heap[v3.heap.size]? = some (.cells #[.int .i64 0, .int .i64 0, .slice none 0 0] 43 (0, 0)) from alloc_at rfl)
            have Nm : Hid (X.heap.size ≤ v3.heap.size) := Lib.hid HW3.out.size
            have Nd : Hid (gh ≠ v3.heap.size) := Lib.hid (Nat.ne_of_lt (block_lt Zh3.out))
            generalize v3.alloc (.cells #[.int .i64 0, .int .i64 0, .slice none 0 0] 43) = v4 at *
            generalize v3.heap.size = gm at *
            have Nd2 : Hid (gm ≠ gh) := Lib.hid (fun e => Nd.out e.symm)
            refine held_one (i := 6) (o := ?oi6u11) (by kernel_rfl) ?hi6u11 (fun K hK => ?rest6u11)
            case hi6u11 => (simp only [List.getElem?_toArray, List.getElem?_cons_succ, List.getElem?_cons_zero]; exact rfl)
            obtain ⟨z0, z1, z2, zl, zf0, zf1, zf2⟩ := cells3 Zm4.out
            obtain ⟨F, hF, hm, hk⟩ := store_mark (n := l.length) (m := tr.length) Zm4.out
            have ZM5 := Lib.hid hm
            have Zh5 := Lib.hid ((hk.old gh (block_lt Zh4.out) (fun e => Nd2.out e.symm)).trans Zh4.out)
            have HW5 := Lib.hid (HW4.out.trans (hk.bel.mono Nm.out))
            go_simp
            rw [← hF]
            refine hK _ _ (HS.out _ HW5.out) ?_
            clear hK K hHeld
            have hHeld := HS.out _ HW5.out
            try simp only [Act.put, List.setIfInBounds_toArray, List.set_cons_zero, List.set_cons_succ]
            clear hF hk hm z0 z1 z2 zl zf0 zf1 zf2
            refine held_one (i := 7) (o := ?oi7u12) (by kernel_rfl) ?hi7u12 (fun K hK => ?rest7u12)
            case hi7u12 => (simp only [List.getElem?_toArray, List.getElem?_cons_succ, List.getElem?_cons_zero]; exact rfl)
            obtain ⟨z0, z1, z2, zl, zf0, zf1, zf2⟩ := cells3 Zh5.out
            obtain ⟨F, hF, hm, hk⟩ := store_heap (A := A1) (n := l.length) (c := c1) (B := B1) (m := tr.length) (d := d1) (r := r) Zh5.out
            have ZG6 := Lib.hid hm
            have ZM6 := Lib.hid (ZM5.out.kq hk Nd2.out)
            have HW6 := Lib.hid (HW5.out.trans (hk.bel.mono Nh.out))
            go_simp
            rw [← hF]
            refine hK _ _ (HS.out _ HW6.out) ?_
            clear hK K hHeld
            have hHeld := HS.out _ HW6.out
            try simp only [Act.put, List.setIfInBounds_toArray, List.set_cons_zero, List.set_cons_succ]
            clear hF hk hm z0 z1 z2 zl zf0 zf1 zf2
            refine wpAnyH_take (i := 8) (oi := ?oi8u13) (v := ?v8u13) ?hi8u13 (by kernel_rfl) (by kernel_rfl) (by kernel_rfl) ?hQ8u13 (Or.inl ⟨?hw8u13, ?hy8u13⟩) hHeld ?rest8u13
            case hi8u13 => (simp only [List.getElem?_toArray, List.getElem?_cons_succ, List.getElem?_cons_zero]; exact rfl)
            case hQ8u13 => exact fun _ _ _ h => h
            case hw8u13 => rfl
            case hy8u13 => (intro w hSw; (try dsimp only at hSw); go_simp <;> with_reducible rfl)
            try simp only [Act.put, List.setIfInBounds_toArray, List.set_cons_zero, List.set_cons_succ]
            refine wpAnyH_done (by kernel_rfl) ?_ _
            clear hHeld
            go_wp2_with fail
            go_meet
            exact ⟨gm, gh, _, rfl, rfl, rfl, ZM6.out, ⟨A1, c1, B1, d1, ZG6.out, HC1.out.below HW6.out, HN1.out.below HW6.out⟩, Nh.out, Nd2.out, HW6.out⟩
        · have HW2 := Lib.hid (HW1.out.alloc HW1.out.size (.cells #[.int .i64 0, .int .i64 0, .slice none 0 0] 43))
          go_simp
          refine hK _ _ (HS.out _ HW2.out) ?_
          clear hK K hHeld
          have hHeld := HS.out _ HW2.out
          try simp only [Act.put, List.setIfInBounds_toArray, List.set_cons_zero, List.set_cons_succ]
          have Zm2 := Lib.hid (show (v1.alloc (.cells #[.int .i64 0, .int .i64 0, .slice none 0 0] 43)).heap[v1.heap.size]? = some (.cells #[.int .i64 0, .int .i64 0, .slice none 0 0] 43 (0, 0)) from alloc_at rfl)
          have Nm : Hid (X.heap.size ≤ v1.heap.size) := Lib.hid HW1.out.size
          generalize v1.alloc (.cells #[.int .i64 0, .int .i64 0, .slice none 0 0] 43) = v2 at *
          generalize v1.heap.size = gm at *
          refine held_two (i := 3) (j := 5) (oi := ?oi3u14) (oj := ?oi5u14) (by kernel_rfl) ?hi3u14 ?hi5u14 (fun K hK => ?rest3u14) (fun K hK => ?rest5u14)
          case hi3u14 => (simp only [List.getElem?_toArray, List.getElem?_cons_succ, List.getElem?_cons_zero]; exact rfl)
          case hi5u14 => (simp only [List.getElem?_toArray, List.getElem?_cons_succ, List.getElem?_cons_zero]; exact rfl)
          · have HW3 := Lib.hid (HW2.out.alloc HW2.out.size (.cells #[] 3))
            go_simp
            refine hK _ _ (HS.out _ HW3.out) ?_
            clear hK K hHeld
            have hHeld := HS.out _ HW3.out
            try simp only [Act.put, List.setIfInBounds_toArray, List.set_cons_zero, List.set_cons_succ]
            have Zm3 := Lib.hid (((bas v2 (.cells #[] 3)).block _ (block_lt Zm2.out)).trans Zm2.out)
            generalize v2.alloc (.cells #[] 3) = v3 at *
            generalize v2.heap.size = gz at *
            refine held_one (i := 5) (o := ?oi5u15) (by kernel_rfl) ?hi5u15 (fun K hK => ?rest5u15)
            case hi5u15 => (simp only [List.getElem?_toArray, List.getElem?_cons_succ, List.getElem?_cons_zero]; exact rfl)
            have HW4 := Lib.hid (HW3.out.alloc HW3.out.size (.cells #[.slice none 0 0, .slice none 0 0, .int .i64 0] 25))
            go_simp
            refine hK _ _ (HS.out _ HW4.out) ?_
            clear hK K hHeld
            have hHeld := HS.out _ HW4.out
            try simp only [Act.put, List.setIfInBounds_toArray, List.set_cons_zero, List.set_cons_succ]
            have Zm4 := Lib.hid (((bas v3 (.cells #[.slice none 0 0, .slice none 0 0, .int .i64 0] 25)).block _ (block_lt Zm3.out)).trans Zm3.out)
            have Zh4 := Lib.hid (show (v3.alloc (.cells #[.slice none 0 0, .slice none 0 0, .int .i64 0] 25)).heap[v3.heap.size]? = some (.cells #[.slice none 0 0, .slice none 0 0, .int .i64 0] 25 (0, 0)) from alloc_at rfl)
            have Nh : Hid (X.heap.size ≤ v3.heap.size) := Lib.hid HW3.out.size
            have Nd : Hid (gm ≠ v3.heap.size) := Lib.hid (Nat.ne_of_lt (block_lt Zm3.out))
            generalize v3.alloc (.cells #[.slice none 0 0, .slice none 0 0, .int .i64 0] 25) = v4 at *
            generalize v3.heap.size = gh at *
            have Nd2 : Hid (gm ≠ gh) := Lib.hid Nd.out
            refine held_one (i := 6) (o := ?oi6u16) (by kernel_rfl) ?hi6u16 (fun K hK => ?rest6u16)
            case hi6u16 => (simp only [List.getElem?_toArray, List.getElem?_cons_succ, List.getElem?_cons_zero]; exact rfl)
            obtain ⟨z0, z1, z2, zl, zf0, zf1, zf2⟩ := cells3 Zm4.out
            obtain ⟨F, hF, hm, hk⟩ := store_mark (n := l.length) (m := tr.length) Zm4.out
            have ZM5 := Lib.hid hm
            have Zh5 := Lib.hid ((hk.old gh (block_lt Zh4.out) (fun e => Nd2.out e.symm)).trans Zh4.out)
            have HW5 := Lib.hid (HW4.out.trans (hk.bel.mono Nm.out))
            go_simp
            rw [← hF]
            refine hK _ _ (HS.out _ HW5.out) ?_
            clear hK K hHeld
            have hHeld := HS.out _ HW5.out
            try simp only [Act.put, List.setIfInBounds_toArray, List.set_cons_zero, List.set_cons_succ]
            clear hF hk hm z0 z1 z2 zl zf0 zf1 zf2
            refine held_one (i := 7) (o := ?oi7u17) (by kernel_rfl) ?hi7u17 (fun K hK => ?rest7u17)
            case hi7u17 => (simp only [List.getElem?_toArray, List.getElem?_cons_succ, List.getElem?_cons_zero]; exact rfl)
            obtain ⟨z0, z1, z2, zl, zf0, zf1, zf2⟩ := cells3 Zh5.out
            obtain ⟨F, hF, hm, hk⟩ := store_heap (A := A1) (n := l.length) (c := c1) (B := B1) (m := tr.length) (d := d1) (r := r) Zh5.out
            have ZG6 := Lib.hid hm
            have ZM6 := Lib.hid (ZM5.out.kq hk Nd2.out)
            have HW6 := Lib.hid (HW5.out.trans (hk.bel.mono Nh.out))
            go_simp
            rw [← hF]
            refine hK _ _ (HS.out _ HW6.out) ?_
            clear hK K hHeld
            have hHeld := HS.out _ HW6.out
            try simp only [Act.put, List.setIfInBounds_toArray, List.set_cons_zero, List.set_cons_succ]
            clear hF hk hm z0 z1 z2 zl zf0 zf1 zf2
            refine wpAnyH_take (i := 8) (oi := ?oi8u18) (v := ?v8u18) ?hi8u18 (by kernel_rfl) (by kernel_rfl) (by kernel_rfl) ?hQ8u18 (Or.inl ⟨?hw8u18, ?hy8u18⟩) hHeld ?rest8u18
            case hi8u18 => (simp only [List.getElem?_toArray, List.getElem?_cons_succ, List.getElem?_cons_zero]; exact rfl)
            case hQ8u18 => exact fun _ _ _ h => h
            case hw8u18 => rfl
            case hy8u18 => (intro w hSw; (try dsimp only at hSw); go_simp <;> with_reducible rfl)
            try simp only [Act.put, List.setIfInBounds_toArray, List.set_cons_zero, List.set_cons_succ]
            refine wpAnyH_done (by kernel_rfl) ?_ _
            clear hHeld
            go_wp2_with fail
            go_meet
            exact ⟨gm, gh, _, rfl, rfl, rfl, ZM6.out, ⟨A1, c1, B1, d1, ZG6.out, HC1.out.below HW6.out, HN1.out.below HW6.out⟩, Nh.out, Nd2.out, HW6.out⟩
          · have HW3 := Lib.hid (HW2.out.alloc HW2.out.size (.cells #[.slice none 0 0, .slice none 0 0, .int .i64 0] 25))
            go_simp
            refine hK _ _ (HS.out _ HW3.out) ?_
            clear hK K hHeld
            have hHeld := HS.out _ HW3.out
            try simp only [Act.put, List.setIfInBounds_toArray, List.set_cons_zero, List.set_cons_succ]
            have Zm3 := Lib.hid (((bas v2 (.cells #[.slice none 0 0, .slice none 0 0, .int .i64 0] 25)).block _ (block_lt Zm2.out)).trans Zm2.out)
            have Zh3 := Lib.hid (show (v2.alloc (.cells #[.slice none 0 0, .slice none 0 0, .int .i64 0] 25)).heap[v2.heap.size]? = some (.cells #[.slice none 0 0, .slice none 0 0, .int .i64 0] 25 (0, 0)) from alloc_at rfl)
            have Nh : Hid (X.heap.size ≤ v2.heap.size) := Lib.hid HW2.out.size
            have Nd : Hid (gm ≠ v2.heap.size) := Lib.hid (Nat.ne_of_lt (block_lt Zm2.out))
            generalize v2.alloc (.cells #[.slice none 0 0, .slice none 0 0, .int .i64 0] 25) = v3 at *
            generalize v2.heap.size = gh at *
            have Nd2 : Hid (gm ≠ gh) := Lib.hid Nd.out
            refine held_two (i := 3) (j := 6) (oi := ?oi3u19) (oj := ?oi6u19) (by kernel_rfl) ?hi3u19 ?hi6u19 (fun K hK => ?rest3u19) (fun K hK => ?rest6u19)
            case hi3u19 => (simp only [List.getElem?_toArray, List.getElem?_cons_succ, List.getElem?_cons_zero]; exact rfl)
            case hi6u19 => (simp only [List.getElem?_toArray, List.getElem?_cons_succ, List.getElem?_cons_zero]; exact rfl)
            · have HW4 := Lib.hid (HW3.out.alloc HW3.out.size (.cells #[] 3))
              go_simp
              refine hK _ _ (HS.out _ HW4.out) ?_
              clear hK K hHeld
              have hHeld := HS.out _ HW4.out
              try simp only [Act.put, List.setIfInBounds_toArray, List.set_cons_zero, List.set_cons_succ]
              have Zm4 := Lib.hid (((bas v3 (.cells #[] 3)).block _ (block_lt Zm3.out)).trans Zm3.out)
              have Zh4 := Lib.hid (((bas v3 (.cells #[] 3)).block _ (block_lt Zh3.out)).trans Zh3.out)
              generalize v3.alloc (.cells #[] 3) = v4 at *
              generalize v3.heap.size = gz at *
              refine held_one (i := 6) (o := ?oi6u20) (by kernel_rfl) ?hi6u20 (fun K hK => ?rest6u20)
              case hi6u20 => (simp only [List.getElem?_toArray, List.getElem?_cons_succ, List.getElem?_cons_zero]; exact rfl)
              obtain ⟨z0, z1, z2, zl, zf0, zf1, zf2⟩ := cells3 Zm4.out
              obtain ⟨F, hF, hm, hk⟩ := store_mark (n := l.length) (m := tr.length) Zm4.out
              have ZM5 := Lib.hid hm
              have Zh5 := Lib.hid ((hk.old gh (block_lt Zh4.out) (fun e => Nd2.out e.symm)).trans Zh4.out)
              have HW5 := Lib.hid (HW4.out.trans (hk.bel.mono Nm.out))
              go_simp
              rw [← hF]
              refine hK _ _ (HS.out _ HW5.out) ?_
              clear hK K hHeld
              have hHeld := HS.out _ HW5.out
              try simp only [Act.put, List.setIfInBounds_toArray, List.set_cons_zero, List.set_cons_succ]
              clear hF hk hm z0 z1 z2 zl zf0 zf1 zf2
              refine held_one (i := 7) (o := ?oi7u21) (by kernel_rfl) ?hi7u21 (fun K hK => ?rest7u21)
              case hi7u21 => (simp only [List.getElem?_toArray, List.getElem?_cons_succ, List.getElem?_cons_zero]; exact rfl)
              obtain ⟨z0, z1, z2, zl, zf0, zf1, zf2⟩ := cells3 Zh5.out
              obtain ⟨F, hF, hm, hk⟩ := store_heap (A := A1) (n := l.length) (c := c1) (B := B1) (m := tr.length) (d := d1) (r := r) Zh5.out
              have ZG6 := Lib.hid hm
              have ZM6 := Lib.hid (ZM5.out.kq hk Nd2.out)
              have HW6 := Lib.hid (HW5.out.trans (hk.bel.mono Nh.out))
              go_simp
              rw [← hF]
              refine hK _ _ (HS.out _ HW6.out) ?_
              clear hK K hHeld
              have hHeld := HS.out _ HW6.out
              try simp only [Act.put, List.setIfInBounds_toArray, List.set_cons_zero, List.set_cons_succ]
              clear hF hk hm z0 z1 z2 zl zf0 zf1 zf2
              refine wpAnyH_take (i := 8) (oi := ?oi8u22) (v := ?v8u22) ?hi8u22 (by kernel_rfl) (by kernel_rfl) (by kernel_rfl) ?hQ8u22 (Or.inl ⟨?hw8u22, ?hy8u22⟩) hHeld ?rest8u22
              case hi8u22 => (simp only [List.getElem?_toArray, List.getElem?_cons_succ, List.getElem?_cons_zero]; exact rfl)
              case hQ8u22 => exact fun _ _ _ h => h
              case hw8u22 => rfl
              case hy8u22 => (intro w hSw; (try dsimp only at hSw); go_simp <;> with_reducible rfl)
              try simp only [Act.put, List.setIfInBounds_toArray, List.set_cons_zero, List.set_cons_succ]
              refine wpAnyH_done (by kernel_rfl) ?_ _
              clear hHeld
              go_wp2_with fail
              go_meet
              exact ⟨gm, gh, _, rfl, rfl, rfl, ZM6.out, ⟨A1, c1, B1, d1, ZG6.out, HC1.out.below HW6.out, HN1.out.below HW6.out⟩, Nh.out, Nd2.out, HW6.out⟩
            · obtain ⟨z0, z1, z2, zl, zf0, zf1, zf2⟩ := cells3 Zm3.out
              obtain ⟨F, hF, hm, hk⟩ := store_mark (n := l.length) (m := tr.length) Zm3.out
              have ZM4 := Lib.hid hm
              have Zh4 := Lib.hid ((hk.old gh (block_lt Zh3.out) (fun e => Nd2.out e.symm)).trans Zh3.out)
              have HW4 := Lib.hid (HW3.out.trans (hk.bel.mono Nm.out))
              go_simp
              rw [← hF]
              refine hK _ _ (HS.out _ HW4.out) ?_
              clear hK K hHeld
              have hHeld := HS.out _ HW4.out
              try simp only [Act.put, List.setIfInBounds_toArray, List.set_cons_zero, List.set_cons_succ]
              clear hF hk hm z0 z1 z2 zl zf0 zf1 zf2
              refine held_two (i := 3) (j := 7) (oi := ?oi3u23) (oj := ?oi7u23) (by kernel_rfl) ?hi3u23 ?hi7u23 (fun K hK => ?rest3u23) (fun K hK => ?rest7u23)
              case hi3u23 => (simp only [List.getElem?_toArray, List.getElem?_cons_succ, List.getElem?_cons_zero]; exact rfl)
              case hi7u23 => (simp only [List.getElem?_toArray, List.getElem?_cons_succ, List.getElem?_cons_zero]; exact rfl)
              · have HW5 := Lib.hid (HW4.out.alloc HW4.out.size (.cells #[] 3))
                go_simp
                refine hK _ _ (HS.out _ HW5.out) ?_
                clear hK K hHeld
                have hHeld := HS.out _ HW5.out
                try simp only [Act.put, List.setIfInBounds_toArray, List.set_cons_zero, List.set_cons_succ]
                have ZM5 := Lib.hid (ZM4.out.below (bas F (.cells #[] 3)))
                have Zh5 := Lib.hid (((bas F (.cells #[] 3)).block _ (block_lt Zh4.out)).trans Zh4.out)
                generalize F.alloc (.cells #[] 3) = v5 at *
                generalize F.heap.size = gz at *
                refine held_one (i := 7) (o := ?oi7u24) (by kernel_rfl) ?hi7u24 (fun K hK => ?rest7u24)
                case hi7u24 => (simp only [List.getElem?_toArray, List.getElem?_cons_succ, List.getElem?_cons_zero]; exact rfl)
                obtain ⟨z0, z1, z2, zl, zf0, zf1, zf2⟩ := cells3 Zh5.out
                obtain ⟨F, hF, hm, hk⟩ := store_heap (A := A1) (n := l.length) (c := c1) (B := B1) (m := tr.length) (d := d1) (r := r) Zh5.out
                have ZG6 := Lib.hid hm
                have ZM6 := Lib.hid (ZM5.out.kq hk Nd2.out)
                have HW6 := Lib.hid (HW5.out.trans (hk.bel.mono Nh.out))
                go_simp
                rw [← hF]
                refine hK _ _ (HS.out _ HW6.out) ?_
                clear hK K hHeld
                have hHeld := HS.out _ HW6.out
                try simp only [Act.put, List.setIfInBounds_toArray, List.set_cons_zero, List.set_cons_succ]
                clear hF hk hm z0 z1 z2 zl zf0 zf1 zf2
                refine wpAnyH_take (i := 8) (oi := ?oi8u25) (v := ?v8u25) ?hi8u25 (by kernel_rfl) (by kernel_rfl) (by kernel_rfl) ?hQ8u25 (Or.inl ⟨?hw8u25, ?hy8u25⟩) hHeld ?rest8u25
                case hi8u25 => (simp only [List.getElem?_toArray, List.getElem?_cons_succ, List.getElem?_cons_zero]; exact rfl)
                case hQ8u25 => exact fun _ _ _ h => h
                case hw8u25 => rfl
                case hy8u25 => (intro w hSw; (try dsimp only at hSw); go_simp <;> with_reducible rfl)
                try simp only [Act.put, List.setIfInBounds_toArray, List.set_cons_zero, List.set_cons_succ]
                refine wpAnyH_done (by kernel_rfl) ?_ _
                clear hHeld
                go_wp2_with fail
                go_meet
                exact ⟨gm, gh, _, rfl, rfl, rfl, ZM6.out, ⟨A1, c1, B1, d1, ZG6.out, HC1.out.below HW6.out, HN1.out.below HW6.out⟩, Nh.out, Nd2.out, HW6.out⟩
              · obtain ⟨z0, z1, z2, zl, zf0, zf1, zf2⟩ := cells3 Zh4.out
                obtain ⟨F, hF, hm, hk⟩ := store_heap (A := A1) (n := l.length) (c := c1) (B := B1) (m := tr.length) (d := d1) (r := r) Zh4.out
                have ZG5 := Lib.hid hm
                have ZM5 := Lib.hid (ZM4.out.kq hk Nd2.out)
                have HW5 := Lib.hid (HW4.out.trans (hk.bel.mono Nh.out))
                go_simp
                rw [← hF]
                refine hK _ _ (HS.out _ HW5.out) ?_
                clear hK K hHeld
                have hHeld := HS.out _ HW5.out
                try simp only [Act.put, List.setIfInBounds_toArray, List.set_cons_zero, List.set_cons_succ]
                clear hF hk hm z0 z1 z2 zl zf0 zf1 zf2
                refine held_one (i := 3) (o := ?oi3u26) (by kernel_rfl) ?hi3u26 (fun K hK => ?rest3u26)
                case hi3u26 => (simp only [List.getElem?_toArray, List.getElem?_cons_succ, List.getElem?_cons_zero]; exact rfl)
                have HW6 := Lib.hid (HW5.out.alloc HW5.out.size (.cells #[] 3))
                go_simp
                refine hK _ _ (HS.out _ HW6.out) ?_
                clear hK K hHeld
                have hHeld := HS.out _ HW6.out
                try simp only [Act.put, List.setIfInBounds_toArray, List.set_cons_zero, List.set_cons_succ]
                have ZM6 := Lib.hid (ZM5.out.below (bas F (.cells #[] 3)))
                have ZG6 := Lib.hid (((bas F (.cells #[] 3)).block _ (block_lt ZG5.out)).trans ZG5.out)
                generalize F.alloc (.cells #[] 3) = v6 at *
                generalize F.heap.size = gz at *
                refine wpAnyH_take (i := 8) (oi := ?oi8u27) (v := ?v8u27) ?hi8u27 (by kernel_rfl) (by kernel_rfl) (by kernel_rfl) ?hQ8u27 (Or.inl ⟨?hw8u27, ?hy8u27⟩) hHeld ?rest8u27
                case hi8u27 => (simp only [List.getElem?_toArray, List.getElem?_cons_succ, List.getElem?_cons_zero]; exact rfl)
                case hQ8u27 => exact fun _ _ _ h => h
                case hw8u27 => rfl
                case hy8u27 => (intro w hSw; (try dsimp only at hSw); go_simp <;> with_reducible rfl)
                try simp only [Act.put, List.setIfInBounds_toArray, List.set_cons_zero, List.set_cons_succ]
                refine wpAnyH_done (by kernel_rfl) ?_ _
                clear hHeld
                go_wp2_with fail
                go_meet
                exact ⟨gm, gh, _, rfl, rfl, rfl, ZM6.out, ⟨A1, c1, B1, d1, ZG6.out, HC1.out.below HW6.out, HN1.out.below HW6.out⟩, Nh.out, Nd2.out, HW6.out⟩
        · have HW2 := Lib.hid (HW1.out.alloc HW1.out.size (.cells #[.slice none 0 0, .slice none 0 0, .int .i64 0] 25))
          go_simp
          refine hK _ _ (HS.out _ HW2.out) ?_
          clear hK K hHeld
          have hHeld := HS.out _ HW2.out
          try simp only [Act.put, List.setIfInBounds_toArray, List.set_cons_zero, List.set_cons_succ]
          have Zh2 := Lib.hid (show (v1.alloc (.cells #[.slice none 0 0, .slice none 0 0, .int .i64 0] 25)).heap[v1.heap.size]? = some (.cells #[.slice none 0 0, .slice none 0 0, .int .i64 0] 25 (0, 0)) from alloc_at rfl)
          have Nh : Hid (X.heap.size ≤ v1.heap.size) := Lib.hid HW1.out.size
          generalize v1.alloc (.cells #[.slice none 0 0, .slice none 0 0, .int .i64 0] 25) = v2 at *
          generalize v1.heap.size = gh at *
          refine held_two (i := 3) (j := 4) (oi := ?oi3u28) (oj := ?oi4u28) (by kernel_rfl) ?hi3u28 ?hi4u28 (fun K hK => ?rest3u28) (fun K hK => ?rest4u28)
          case hi3u28 => (simp only [List.getElem?_toArray, List.getElem?_cons_succ, List.getElem?_cons_zero]; exact rfl)
          case hi4u28 => (simp only [List.getElem?_toArray, List.getElem?_cons_succ, List.getElem?_cons_zero]; exact rfl)
          · have HW3 := Lib.hid (HW2.out.alloc HW2.out.size (.cells #[] 3))
            go_simp
            refine hK _ _ (HS.out _ HW3.out) ?_
            clear hK K hHeld
            have hHeld := HS.out _ HW3.out
            try simp only [Act.put, List.setIfInBounds_toArray, List.set_cons_zero, List.set_cons_succ]
            have Zh3 := Lib.hid (((bas v2 (.cells #[] 3)).block _ (block_lt Zh2.out)).trans Zh2.out)
            generalize v2.alloc (.cells #[] 3) = v3 at *
            generalize v2.heap.size = gz at *
            refine held_one (i := 4) (o := ?oi4u29) (by kernel_rfl) ?hi4u29 (fun K hK => ?rest4u29)
            case hi4u29 => (simp only [List.getElem?_toArray, List.getElem?_cons_succ, List.getElem?_cons_zero]; exact rfl)
            have HW4 := Lib.hid (HW3.out.alloc HW3.out.size (.cells #[.int .i64 0, .int .i64 0, .slice none 0 0] 43))
            go_simp
            refine hK _ _ (HS.out _ HW4.out) ?_
            clear hK K hHeld
            have hHeld := HS.out _ HW4.out
            try simp only [Act.put, List.setIfInBounds_toArray, List.set_cons_zero, List.set_cons_succ]
            have Zh4 := Lib.hid (((bas v3 (.cells #[.int .i64 0, .int .i64 0, .slice none 0 0] 43)).block _ (block_lt Zh3.out)).trans Zh3.out)
            have Zm4 := Lib.hid (show (v3.alloc (.cells #[.int .i64 0, .int .i64 0, .slice none 0 0] 43)).heap[v3.heap.size]? = some (.cells #[.int .i64 0, .int .i64 0, .slice none 0 0] 43 (0, 0)) from alloc_at rfl)
            have Nm : Hid (X.heap.size ≤ v3.heap.size) := Lib.hid HW3.out.size
            have Nd : Hid (gh ≠ v3.heap.size) := Lib.hid (Nat.ne_of_lt (block_lt Zh3.out))
            generalize v3.alloc (.cells #[.int .i64 0, .int .i64 0, .slice none 0 0] 43) = v4 at *
            generalize v3.heap.size = gm at *
            have Nd2 : Hid (gm ≠ gh) := Lib.hid (fun e => Nd.out e.symm)
            refine held_one (i := 6) (o := ?oi6u30) (by kernel_rfl) ?hi6u30 (fun K hK => ?rest6u30)
            case hi6u30 => (simp only [List.getElem?_toArray, List.getElem?_cons_succ, List.getElem?_cons_zero]; exact rfl)
            obtain ⟨z0, z1, z2, zl, zf0, zf1, zf2⟩ := cells3 Zm4.out
            obtain ⟨F, hF, hm, hk⟩ := store_mark (n := l.length) (m := tr.length) Zm4.out
            have ZM5 := Lib.hid hm
            have Zh5 := Lib.hid ((hk.old gh (block_lt Zh4.out) (fun e => Nd2.out e.symm)).trans Zh4.out)
            have HW5 := Lib.hid (HW4.out.trans (hk.bel.mono Nm.out))
            go_simp
            rw [← hF]
            refine hK _ _ (HS.out _ HW5.out) ?_
            clear hK K hHeld
            have hHeld := HS.out _ HW5.out
            try simp only [Act.put, List.setIfInBounds_toArray, List.set_cons_zero, List.set_cons_succ]
            clear hF hk hm z0 z1 z2 zl zf0 zf1 zf2
            refine held_one (i := 7) (o := ?oi7u31) (by kernel_rfl) ?hi7u31 (fun K hK => ?rest7u31)
            case hi7u31 => (simp only [List.getElem?_toArray, List.getElem?_cons_succ, List.getElem?_cons_zero]; exact rfl)
            obtain ⟨z0, z1, z2, zl, zf0, zf1, zf2⟩ := cells3 Zh5.out
            obtain ⟨F, hF, hm, hk⟩ := store_heap (A := A1) (n := l.length) (c := c1) (B := B1) (m := tr.length) (d := d1) (r := r) Zh5.out
            have ZG6 := Lib.hid hm
            have ZM6 := Lib.hid (ZM5.out.kq hk Nd2.out)
            have HW6 := Lib.hid (HW5.out.trans (hk.bel.mono Nh.out))
            go_simp
            rw [← hF]
            refine hK _ _ (HS.out _ HW6.out) ?_
            clear hK K hHeld
            have hHeld := HS.out _ HW6.out
            try simp only [Act.put, List.setIfInBounds_toArray, List.set_cons_zero, List.set_cons_succ]
            clear hF hk hm z0 z1 z2 zl zf0 zf1 zf2
            refine wpAnyH_take (i := 8) (oi := ?oi8u32) (v := ?v8u32) ?hi8u32 (by kernel_rfl) (by kernel_rfl) (by kernel_rfl) ?hQ8u32 (Or.inl ⟨?hw8u32, ?hy8u32⟩) hHeld ?rest8u32
            case hi8u32 => (simp only [List.getElem?_toArray, List.getElem?_cons_succ, List.getElem?_cons_zero]; exact rfl)
            case hQ8u32 => exact fun _ _ _ h => h
            case hw8u32 => rfl
            case hy8u32 => (intro w hSw; (try dsimp only at hSw); go_simp <;> with_reducible rfl)
            try simp only [Act.put, List.setIfInBounds_toArray, List.set_cons_zero, List.set_cons_succ]
            refine wpAnyH_done (by kernel_rfl) ?_ _
            clear hHeld
            go_wp2_with fail
            go_meet
            exact ⟨gm, gh, _, rfl, rfl, rfl, ZM6.out, ⟨A1, c1, B1, d1, ZG6.out, HC1.out.below HW6.out, HN1.out.below HW6.out⟩, Nh.out, Nd2.out, HW6.out⟩
          · have HW3 := Lib.hid (HW2.out.alloc HW2.out.size (.cells #[.int .i64 0, .int .i64 0, .slice none 0 0] 43))
            go_simp
            refine hK _ _ (HS.out _ HW3.out) ?_
            clear hK K hHeld
            have hHeld := HS.out _ HW3.out
            try simp only [Act.put, List.setIfInBounds_toArray, List.set_cons_zero, List.set_cons_succ]
            have Zh3 := Lib.hid (((bas v2 (.cells #[.int .i64 0, .int .i64 0, .slice none 0 0] 43)).block _ (block_lt Zh2.out)).trans Zh2.out)
            have Zm3 := Lib.hid (show (v2.alloc (.cells #[.int .i64 0, .int .i64 0, .slice none 0 0] 43)).heap[v2.heap.size]? = some (.cells #[.int .i64 0, .int .i64 0, .slice none 0 0] 43 (0, 0)) from alloc_at rfl)
            have Nm : Hid (X.heap.size ≤ v2.heap.size) := Lib.hid HW2.out.size
            have Nd : Hid (gh ≠ v2.heap.size) := Lib.hid (Nat.ne_of_lt (block_lt Zh2.out))
            generalize v2.alloc (.cells #[.int .i64 0, .int .i64 0, .slice none 0 0] 43) = v3 at *
            generalize v2.heap.size = gm at *
            have Nd2 : Hid (gm ≠ gh) := Lib.hid (fun e => Nd.out e.symm)
            refine held_two (i := 3) (j := 6) (oi := ?oi3u33) (oj := ?oi6u33) (by kernel_rfl) ?hi3u33 ?hi6u33 (fun K hK => ?rest3u33) (fun K hK => ?rest6u33)
            case hi3u33 => (simp only [List.getElem?_toArray, List.getElem?_cons_succ, List.getElem?_cons_zero]; exact rfl)
            case hi6u33 => (simp only [List.getElem?_toArray, List.getElem?_cons_succ, List.getElem?_cons_zero]; exact rfl)
            · have HW4 := Lib.hid (HW3.out.alloc HW3.out.size (.cells #[] 3))
              go_simp
              refine hK _ _ (HS.out _ HW4.out) ?_
              clear hK K hHeld
              have hHeld := HS.out _ HW4.out
              try simp only [Act.put, List.setIfInBounds_toArray, List.set_cons_zero, List.set_cons_succ]
              have Zh4 := Lib.hid (((bas v3 (.cells #[] 3)).block _ (block_lt Zh3.out)).trans Zh3.out)
              have Zm4 := Lib.hid (((bas v3 (.cells #[] 3)).block _ (block_lt Zm3.out)).trans Zm3.out)
              generalize v3.alloc (.cells #[] 3) = v4 at *
              generalize v3.heap.size = gz at *
              refine held_one (i := 6) (o := ?oi6u34) (by kernel_rfl) ?hi6u34 (fun K hK => ?rest6u34)
              case hi6u34 => (simp only [List.getElem?_toArray, List.getElem?_cons_succ, List.getElem?_cons_zero]; exact rfl)
              obtain ⟨z0, z1, z2, zl, zf0, zf1, zf2⟩ := cells3 Zm4.out
              obtain ⟨F, hF, hm, hk⟩ := store_mark (n := l.length) (m := tr.length) Zm4.out
              have ZM5 := Lib.hid hm
              have Zh5 := Lib.hid ((hk.old gh (block_lt Zh4.out) (fun e => Nd2.out e.symm)).trans Zh4.out)
              have HW5 := Lib.hid (HW4.out.trans (hk.bel.mono Nm.out))
              go_simp
              rw [← hF]
              refine hK _ _ (HS.out _ HW5.out) ?_
              clear hK K hHeld
              have hHeld := HS.out _ HW5.out
              try simp only [Act.put, List.setIfInBounds_toArray, List.set_cons_zero, List.set_cons_succ]
              clear hF hk hm z0 z1 z2 zl zf0 zf1 zf2
              refine held_one (i := 7) (o := ?oi7u35) (by kernel_rfl) ?hi7u35 (fun K hK => ?rest7u35)
              case hi7u35 => (simp only [List.getElem?_toArray, List.getElem?_cons_succ, List.getElem?_cons_zero]; exact rfl)
              obtain ⟨z0, z1, z2, zl, zf0, zf1, zf2⟩ := cells3 Zh5.out
              obtain ⟨F, hF, hm, hk⟩ := store_heap (A := A1) (n := l.length) (c := c1) (B := B1) (m := tr.length) (d := d1) (r := r) Zh5.out
              have ZG6 := Lib.hid hm
              have ZM6 := Lib.hid (ZM5.out.kq hk Nd2.out)
              have HW6 := Lib.hid (HW5.out.trans (hk.bel.mono Nh.out))
              go_simp
              rw [← hF]
              refine hK _ _ (HS.out _ HW6.out) ?_
              clear hK K hHeld
              have hHeld := HS.out _ HW6.out
              try simp only [Act.put, List.setIfInBounds_toArray, List.set_cons_zero, List.set_cons_succ]
              clear hF hk hm z0 z1 z2 zl zf0 zf1 zf2
              refine wpAnyH_take (i := 8) (oi := ?oi8u36) (v := ?v8u36) ?hi8u36 (by kernel_rfl) (by kernel_rfl) (by kernel_rfl) ?hQ8u36 (Or.inl ⟨?hw8u36, ?hy8u36⟩) hHeld ?rest8u36
              case hi8u36 => (simp only [List.getElem?_toArray, List.getElem?_cons_succ, List.getElem?_cons_zero]; exact rfl)
              case hQ8u36 => exact fun _ _ _ h => h
              case hw8u36 => rfl
              case hy8u36 => (intro w hSw; (try dsimp only at hSw); go_simp <;> with_reducible rfl)
              try simp only [Act.put, List.setIfInBounds_toArray, List.set_cons_zero, List.set_cons_succ]
              refine wpAnyH_done (by kernel_rfl) ?_ _
              clear hHeld
              go_wp2_with fail
              go_meet
              exact ⟨gm, gh, _, rfl, rfl, rfl, ZM6.out, ⟨A1, c1, B1, d1, ZG6.out, HC1.out.below HW6.out, HN1.out.below HW6.out⟩, Nh.out, Nd2.out, HW6.out⟩
            · obtain ⟨z0, z1, z2, zl, zf0, zf1, zf2⟩ := cells3 Zm3.out
              obtain ⟨F, hF, hm, hk⟩ := store_mark (n := l.length) (m := tr.length) Zm3.out
              have ZM4 := Lib.hid hm
              have Zh4 := Lib.hid ((hk.old gh (block_lt Zh3.out) (fun e => Nd2.out e.symm)).trans Zh3.out)
              have HW4 := Lib.hid (HW3.out.trans (hk.bel.mono Nm.out))
              go_simp
              rw [← hF]
              refine hK _ _ (HS.out _ HW4.out) ?_
              clear hK K hHeld
              have hHeld := HS.out _ HW4.out
              try simp only [Act.put, List.setIfInBounds_toArray, List.set_cons_zero, List.set_cons_succ]
              clear hF hk hm z0 z1 z2 zl zf0 zf1 zf2
              refine held_two (i := 3) (j := 7) (oi := ?oi3u37) (oj := ?oi7u37) (by kernel_rfl) ?hi3u37 ?hi7u37 (fun K hK => ?rest3u37) (fun K hK => ?rest7u37)
              case hi3u37 => (simp only [List.getElem?_toArray, List.getElem?_cons_succ, List.getElem?_cons_zero]; exact rfl)
              case hi7u37 => (simp only [List.getElem?_toArray, List.getElem?_cons_succ, List.getElem?_cons_zero]; exact rfl)
              · have HW5 := Lib.hid (HW4.out.alloc HW4.out.size (.cells #[] 3))
                go_simp
                refine hK _ _ (HS.out _ HW5.out) ?_
                clear hK K hHeld
                have hHeld := HS.out _ HW5.out
                try simp only [Act.put, List.setIfInBounds_toArray, List.set_cons_zero, List.set_cons_succ]
                have ZM5 := Lib.hid (ZM4.out.below (bas F (.cells #[] 3)))
                have Zh5 := Lib.hid (((bas F (.cells #[] 3)).block _ (block_lt Zh4.out)).trans Zh4.out)
                generalize F.alloc (.cells #[] 3) = v5 at *
                generalize F.heap.size = gz at *
                refine held_one (i := 7) (o := ?oi7u38) (by kernel_rfl) ?hi7u38 (fun K hK => ?rest7u38)
                case hi7u38 => (simp only [List.getElem?_toArray, List.getElem?_cons_succ, List.getElem?_cons_zero]; exact rfl)
                obtain ⟨z0, z1, z2, zl, zf0, zf1, zf2⟩ := cells3 Zh5.out
                obtain ⟨F, hF, hm, hk⟩ := store_heap (A := A1) (n := l.length) (c := c1) (B := B1) (m := tr.length) (d := d1) (r := r) Zh5.out
                have ZG6 := Lib.hid hm
                have ZM6 := Lib.hid (ZM5.out.kq hk Nd2.out)
                have HW6 := Lib.hid (HW5.out.trans (hk.bel.mono Nh.out))
                go_simp
                rw [← hF]
                refine hK _ _ (HS.out _ HW6.out) ?_
                clear hK K hHeld
                have hHeld := HS.out _ HW6.out
                try simp only [Act.put, List.setIfInBounds_toArray, List.set_cons_zero, List.set_cons_succ]
                clear hF hk hm z0 z1 z2 zl zf0 zf1 zf2
                refine wpAnyH_take (i := 8) (oi := ?oi8u39) (v := ?v8u39) ?hi8u39 (by kernel_rfl) (by kernel_rfl) (by kernel_rfl) ?hQ8u39 (Or.inl ⟨?hw8u39, ?hy8u39⟩) hHeld ?rest8u39
                case hi8u39 => (simp only [List.getElem?_toArray, List.getElem?_cons_succ, List.getElem?_cons_zero]; exact rfl)
                case hQ8u39 => exact fun _ _ _ h => h
                case hw8u39 => rfl
                case hy8u39 => (intro w hSw; (try dsimp only at hSw); go_simp <;> with_reducible rfl)
                try simp only [Act.put, List.setIfInBounds_toArray, List.set_cons_zero, List.set_cons_succ]
                refine wpAnyH_done (by kernel_rfl) ?_ _
                clear hHeld
                go_wp2_with fail
                go_meet
                exact ⟨gm, gh, _, rfl, rfl, rfl, ZM6.out, ⟨A1, c1, B1, d1, ZG6.out, HC1.out.below HW6.out, HN1.out.below HW6.out⟩, Nh.out, Nd2.out, HW6.out⟩
              · obtain ⟨z0, z1, z2, zl, zf0, zf1, zf2⟩ := cells3 Zh4.out
                obtain ⟨F, hF, hm, hk⟩ := store_heap (A := A1) (n := l.length) (c := c1) (B := B1) (m := tr.length) (d := d1) (r := r) Zh4.out
                have ZG5 := Lib.hid hm
                have ZM5 := Lib.hid (ZM4.out.kq hk Nd2.out)
                have HW5 := Lib.hid (HW4.out.trans (hk.bel.mono Nh.out))
                go_simp
                rw [← hF]
                refine hK _ _ (HS.out _ HW5.out) ?_
                clear hK K hHeld
                have hHeld := HS.out _ HW5.out
                try simp only [Act.put, List.setIfInBounds_toArray, List.set_cons_zero, List.set_cons_succ]
                clear hF hk hm z0 z1 z2 zl zf0 zf1 zf2
                refine held_one (i := 3) (o := ?oi3u40) (by kernel_rfl) ?hi3u40 (fun K hK => ?rest3u40)
                case hi3u40 => (simp only [List.getElem?_toArray, List.getElem?_cons_succ, List.getElem?_cons_zero]; exact rfl)
                have HW6 := Lib.hid (HW5.out.alloc HW5.out.size (.cells #[] 3))
                go_simp
                refine hK _ _ (HS.out _ HW6.out) ?_
                clear hK K hHeld
                have hHeld := HS.out _ HW6.out
                try simp only [Act.put, List.setIfInBounds_toArray, List.set_cons_zero, List.set_cons_succ]
                have ZM6 := Lib.hid (ZM5.out.below (bas F (.cells #[] 3)))
                have ZG6 := Lib.hid (((bas F (.cells #[] 3)).block _ (block_lt ZG5.out)).trans ZG5.out)
                generalize F.alloc (.cells #[] 3) = v6 at *
                generalize F.heap.size = gz at *
                refine wpAnyH_take (i := 8) (oi := ?oi8u41) (v := ?v8u41) ?hi8u41 (by kernel_rfl) (by kernel_rfl) (by kernel_rfl) ?hQ8u41 (Or.inl ⟨?hw8u41, ?hy8u41⟩) hHeld ?rest8u41
                case hi8u41 => (simp only [List.getElem?_toArray, List.getElem?_cons_succ, List.getElem?_cons_zero]; exact rfl)
                case hQ8u41 => exact fun _ _ _ h => h
                case hw8u41 => rfl
                case hy8u41 => (intro w hSw; (try dsimp only at hSw); go_simp <;> with_reducible rfl)
                try simp only [Act.put, List.setIfInBounds_toArray, List.set_cons_zero, List.set_cons_succ]
                refine wpAnyH_done (by kernel_rfl) ?_ _
                clear hHeld
                go_wp2_with fail
                go_meet
                exact ⟨gm, gh, _, rfl, rfl, rfl, ZM6.out, ⟨A1, c1, B1, d1, ZG6.out, HC1.out.below HW6.out, HN1.out.below HW6.out⟩, Nh.out, Nd2.out, HW6.out⟩
      · have HW1 := Lib.hid (HV.out.alloc HV.out.size (.cells #[] 3))
        go_simp
        refine hK _ _ (HS.out _ HW1.out) ?_
        clear hK K hHeld
        have hHeld := HS.out _ HW1.out
        try simp only [Act.put, List.setIfInBounds_toArray, List.set_cons_zero, List.set_cons_succ]
        generalize V.alloc (.cells #[] 3) = v1 at *
        generalize V.heap.size = gz at *
        refine held_three (i := 1) (j := 4) (k := 5) (oi := ?oi1u42) (oj := ?oi4u42) (ok := ?oi5u42) (by kernel_rfl) ?hi1u42 ?hi4u42 ?hi5u42 (fun K hK => ?rest1u42) (fun K hK => ?rest4u42) (fun K hK => ?rest5u42)
        case hi1u42 => (simp only [List.getElem?_toArray, List.getElem?_cons_succ, List.getElem?_cons_zero]; exact rfl)
        case hi4u42 => (simp only [List.getElem?_toArray, List.getElem?_cons_succ, List.getElem?_cons_zero]; exact rfl)
        case hi5u42 => (simp only [List.getElem?_toArray, List.getElem?_cons_succ, List.getElem?_cons_zero]; exact rfl)
        · go_simp
          go_at_call 25
          refine (mark8 (n := 0) (e := 0) (D := none) Hok.out).mono ?_
          rintro e v2 ⟨rfl, hbq⟩
          have HW2 := Lib.hid (HW1.out.trans (hbq.mono HW1.out.size))
          clear hbq
          try go_simp
          refine hK _ _ (HS.out _ HW2.out) ?_
          clear hK K hHeld
          have hHeld := HS.out _ HW2.out
          try simp only [Act.put, List.setIfInBounds_toArray, List.set_cons_zero, List.set_cons_succ]
          refine held_two (i := 4) (j := 5) (oi := ?oi4u43) (oj := ?oi5u43) (by kernel_rfl) ?hi4u43 ?hi5u43 (fun K hK => ?rest4u43) (fun K hK => ?rest5u43)
          case hi4u43 => (simp only [List.getElem?_toArray, List.getElem?_cons_succ, List.getElem?_cons_zero]; exact rfl)
          case hi5u43 => (simp only [List.getElem?_toArray, List.getElem?_cons_succ, List.getElem?_cons_zero]; exact rfl)
          · have HW3 := Lib.hid (HW2.out.alloc HW2.out.size (.cells #[.int .i64 0, .int .i64 0, .slice none 0 0] 43))
            go_simp
            refine hK _ _ (HS.out _ HW3.out) ?_
            clear hK K hHeld
            have hHeld := HS.out _ HW3.out
            try simp only [Act.put, List.setIfInBounds_toArray, List.set_cons_zero, List.set_cons_succ]
            have Zm3 := Lib.hid (show (v2.alloc (.cells #[.int .i64 0, .int .i64 0, .slice none 0 0] 43)).heap[v2.heap.size]? = some (.cells #[.int .i64 0, .int .i64 0, .slice none 0 0] 43 (0, 0)) from alloc_at rfl)
            have Nm : Hid (X.heap.size ≤ v2.heap.size) := Lib.hid HW2.out.size
            generalize v2.alloc (.cells #[.int .i64 0, .int .i64 0, .slice none 0 0] 43) = v3 at *
            generalize v2.heap.size = gm at *
            refine held_one (i := 5) (o := ?oi5u44) (by kernel_rfl) ?hi5u44 (fun K hK => ?rest5u44)
            case hi5u44 => (simp only [List.getElem?_toArray, List.getElem?_cons_succ, List.getElem?_cons_zero]; exact rfl)
            have HW4 := Lib.hid (HW3.out.alloc HW3.out.size (.cells #[.slice none 0 0, .slice none 0 0, .int .i64 0] 25))
            go_simp
            refine hK _ _ (HS.out _ HW4.out) ?_
            clear hK K hHeld
            have hHeld := HS.out _ HW4.out
            try simp only [Act.put, List.setIfInBounds_toArray, List.set_cons_zero, List.set_cons_succ]
            have Zm4 := Lib.hid (((bas v3 (.cells #[.slice none 0 0, .slice none 0 0, .int .i64 0] 25)).block _ (block_lt Zm3.out)).trans Zm3.out)
            have Zh4 := Lib.hid (show (v3.alloc (.cells #[.slice none 0 0, .slice none 0 0, .int .i64 0] 25)).heap[v3.heap.size]? = some (.cells #[.slice none 0 0, .slice none 0 0, .int .i64 0] 25 (0, 0)) from alloc_at rfl)
            have Nh : Hid (X.heap.size ≤ v3.heap.size) := Lib.hid HW3.out.size
            have Nd : Hid (gm ≠ v3.heap.size) := Lib.hid (Nat.ne_of_lt (block_lt Zm3.out))
            generalize v3.alloc (.cells #[.slice none 0 0, .slice none 0 0, .int .i64 0] 25) = v4 at *
            generalize v3.heap.size = gh at *
            have Nd2 : Hid (gm ≠ gh) := Lib.hid Nd.out
            refine held_one (i := 6) (o := ?oi6u45) (by kernel_rfl) ?hi6u45 (fun K hK => ?rest6u45)
            case hi6u45 => (simp only [List.getElem?_toArray, List.getElem?_cons_succ, List.getElem?_cons_zero]; exact rfl)
            obtain ⟨z0, z1, z2, zl, zf0, zf1, zf2⟩ := cells3 Zm4.out
            obtain ⟨F, hF, hm, hk⟩ := store_mark (n := l.length) (m := tr.length) Zm4.out
            have ZM5 := Lib.hid hm
            have Zh5 := Lib.hid ((hk.old gh (block_lt Zh4.out) (fun e => Nd2.out e.symm)).trans Zh4.out)
            have HW5 := Lib.hid (HW4.out.trans (hk.bel.mono Nm.out))
            go_simp
            rw [← hF]
            refine hK _ _ (HS.out _ HW5.out) ?_
            clear hK K hHeld
            have hHeld := HS.out _ HW5.out
            try simp only [Act.put, List.setIfInBounds_toArray, List.set_cons_zero, List.set_cons_succ]
            clear hF hk hm z0 z1 z2 zl zf0 zf1 zf2
            refine held_one (i := 7) (o := ?oi7u46) (by kernel_rfl) ?hi7u46 (fun K hK => ?rest7u46)
            case hi7u46 => (simp only [List.getElem?_toArray, List.getElem?_cons_succ, List.getElem?_cons_zero]; exact rfl)
            obtain ⟨z0, z1, z2, zl, zf0, zf1, zf2⟩ := cells3 Zh5.out
            obtain ⟨F, hF, hm, hk⟩ := store_heap (A := A1) (n := l.length) (c := c1) (B := B1) (m := tr.length) (d := d1) (r := r) Zh5.out
            have ZG6 := Lib.hid hm
            have ZM6 := Lib.hid (ZM5.out.kq hk Nd2.out)
            have HW6 := Lib.hid (HW5.out.trans (hk.bel.mono Nh.out))
            go_simp
            rw [← hF]
            refine hK _ _ (HS.out _ HW6.out) ?_
            clear hK K hHeld
            have hHeld := HS.out _ HW6.out
            try simp only [Act.put, List.setIfInBounds_toArray, List.set_cons_zero, List.set_cons_succ]
            clear hF hk hm z0 z1 z2 zl zf0 zf1 zf2
            refine wpAnyH_take (i := 8) (oi := ?oi8u47) (v := ?v8u47) ?hi8u47 (by kernel_rfl) (by kernel_rfl) (by kernel_rfl) ?hQ8u47 (Or.inl ⟨?hw8u47, ?hy8u47⟩) hHeld ?rest8u47
            case hi8u47 => (simp only [List.getElem?_toArray, List.getElem?_cons_succ, List.getElem?_cons_zero]; exact rfl)
            case hQ8u47 => exact fun _ _ _ h => h
            case hw8u47 => rfl
            case hy8u47 => (intro w hSw; (try dsimp only at hSw); go_simp <;> with_reducible rfl)
            try simp only [Act.put, List.setIfInBounds_toArray, List.set_cons_zero, List.set_cons_succ]
            refine wpAnyH_done (by kernel_rfl) ?_ _
            clear hHeld
            go_wp2_with fail
            go_meet
            exact ⟨gm, gh, _, rfl, rfl, rfl, ZM6.out, ⟨A1, c1, B1, d1, ZG6.out, HC1.out.below HW6.out, HN1.out.below HW6.out⟩, Nh.out, Nd2.out, HW6.out⟩
          · have HW3 := Lib.hid (HW2.out.alloc HW2.out.size (.cells #[.slice none 0 0, .slice none 0 0, .int .i64 0] 25))
            go_simp
            refine hK _ _ (HS.out _ HW3.out) ?_
            clear hK K hHeld
            have hHeld := HS.out _ HW3.out
            try simp only [Act.put, List.setIfInBounds_toArray, List.set_cons_zero, List.set_cons_succ]
            have Zh3 := Lib.hid (show (v2.alloc (.cells #[.slice none 0 0, .slice none 0 0, .int .i64 0] 25)).heap[v2.heap.size]? = some (.cells #[.slice none 0 0, .slice none 0 0, .int .i64 0] 25 (0, 0)) from alloc_at rfl)
            have Nh : Hid (X.heap.size ≤ v2.heap.size) := Lib.hid HW2.out.size
            generalize v2.alloc (.cells #[.slice none 0 0, .slice none 0 0, .int .i64 0] 25) = v3 at *
            generalize v2.heap.size = gh at *
            refine held_one (i := 4) (o := ?oi4u48) (by kernel_rfl) ?hi4u48 (fun K hK => ?rest4u48)
            case hi4u48 => (simp only [List.getElem?_toArray, List.getElem?_cons_succ, List.getElem?_cons_zero]; exact rfl)
            have HW4 := Lib.hid (HW3.out.alloc HW3.out.size (.cells #[.int .i64 0, .int .i64 0, .slice none 0 0] 43))
            go_simp
            refine hK _ _ (HS.out _ HW4.out) ?_
            clear hK K hHeld
            have hHeld := HS.out _ HW4.out
            try simp only [Act.put, List.setIfInBounds_toArray, List.set_cons_zero, List.set_cons_succ]
            have Zh4 := Lib.hid (((bas v3 (.cells #[.int .i64 0, .int .i64 0, .slice none 0 0] 43)).block _ (block_lt Zh3.out)).trans Zh3.out)
            have Zm4 := Lib.hid (show (v3.alloc (.cells #[.int .i64 0, .int .i64 0, .slice none 0 0] 43)).heap[v3.heap.size]? = some (.cells #[.int .i64 0, .int .i64 0, .slice none 0 0] 43 (0, 0)) from alloc_at rfl)
            have Nm : Hid (X.heap.size ≤ v3.heap.size) := Lib.hid HW3.out.size
            have Nd : Hid (gh ≠ v3.heap.size) := Lib.hid (Nat.ne_of_lt (block_lt Zh3.out))
            generalize v3.alloc (.cells #[.int .i64 0, .int .i64 0, .slice none 0 0] 43) = v4 at *
            generalize v3.heap.size = gm at *
            have Nd2 : Hid (gm ≠ gh) := Lib.hid (fun e => Nd.out e.symm)
            refine held_one (i := 6) (o := ?oi6u49) (by kernel_rfl) ?hi6u49 (fun K hK => ?rest6u49)
            case hi6u49 => (simp only [List.getElem?_toArray, List.getElem?_cons_succ, List.getElem?_cons_zero]; exact rfl)
            obtain ⟨z0, z1, z2, zl, zf0, zf1, zf2⟩ := cells3 Zm4.out
            obtain ⟨F, hF, hm, hk⟩ := store_mark (n := l.length) (m := tr.length) Zm4.out
            have ZM5 := Lib.hid hm
            have Zh5 := Lib.hid ((hk.old gh (block_lt Zh4.out) (fun e => Nd2.out e.symm)).trans Zh4.out)
            have HW5 := Lib.hid (HW4.out.trans (hk.bel.mono Nm.out))
            go_simp
            rw [← hF]
            refine hK _ _ (HS.out _ HW5.out) ?_
            clear hK K hHeld
            have hHeld := HS.out _ HW5.out
            try simp only [Act.put, List.setIfInBounds_toArray, List.set_cons_zero, List.set_cons_succ]
            clear hF hk hm z0 z1 z2 zl zf0 zf1 zf2
            refine held_one (i := 7) (o := ?oi7u50) (by kernel_rfl) ?hi7u50 (fun K hK => ?rest7u50)
            case hi7u50 => (simp only [List.getElem?_toArray, List.getElem?_cons_succ, List.getElem?_cons_zero]; exact rfl)
            obtain ⟨z0, z1, z2, zl, zf0, zf1, zf2⟩ := cells3 Zh5.out
            obtain ⟨F, hF, hm, hk⟩ := store_heap (A := A1) (n := l.length) (c := c1) (B := B1) (m := tr.length) (d := d1) (r := r) Zh5.out
            have ZG6 := Lib.hid hm
            have ZM6 := Lib.hid (ZM5.out.kq hk Nd2.out)
            have HW6 := Lib.hid (HW5.out.trans (hk.bel.mono Nh.out))
            go_simp
            rw [← hF]
            refine hK _ _ (HS.out _ HW6.out) ?_
            clear hK K hHeld
            have hHeld := HS.out _ HW6.out
            try simp only [Act.put, List.setIfInBounds_toArray, List.set_cons_zero, List.set_cons_succ]
            clear hF hk hm z0 z1 z2 zl zf0 zf1 zf2
            refine wpAnyH_take (i := 8) (oi := ?oi8u51) (v := ?v8u51) ?hi8u51 (by kernel_rfl) (by kernel_rfl) (by kernel_rfl) ?hQ8u51 (Or.inl ⟨?hw8u51, ?hy8u51⟩) hHeld ?rest8u51
            case hi8u51 => (simp only [List.getElem?_toArray, List.getElem?_cons_succ, List.getElem?_cons_zero]; exact rfl)
            case hQ8u51 => exact fun _ _ _ h => h
            case hw8u51 => rfl
            case hy8u51 => (intro w hSw; (try dsimp only at hSw); go_simp <;> with_reducible rfl)
            try simp only [Act.put, List.setIfInBounds_toArray, List.set_cons_zero, List.set_cons_succ]
            refine wpAnyH_done (by kernel_rfl) ?_ _
            clear hHeld
            go_wp2_with fail
            go_meet
            exact ⟨gm, gh, _, rfl, rfl, rfl, ZM6.out, ⟨A1, c1, B1, d1, ZG6.out, HC1.out.below HW6.out, HN1.out.below HW6.out⟩, Nh.out, Nd2.out, HW6.out⟩
        · have HW2 := Lib.hid (HW1.out.alloc HW1.out.size (.cells #[.int .i64 0, .int .i64 0, .slice none 0 0] 43))
          go_simp
          refine hK _ _ (HS.out _ HW2.out) ?_
          clear hK K hHeld
          have hHeld := HS.out _ HW2.out
          try simp only [Act.put, List.setIfInBounds_toArray, List.set_cons_zero, List.set_cons_succ]
          have Zm2 := Lib.hid (show (v1.alloc (.cells #[.int .i64 0, .int .i64 0, .slice none 0 0] 43)).heap[v1.heap.size]? = some (.cells #[.int .i64 0, .int .i64 0, .slice none 0 0] 43 (0, 0)) from alloc_at rfl)
          have Nm : Hid (X.heap.size ≤ v1.heap.size) := Lib.hid HW1.out.size
          generalize v1.alloc (.cells #[.int .i64 0, .int .i64 0, .slice none 0 0] 43) = v2 at *
          generalize v1.heap.size = gm at *
          refine held_two (i := 1) (j := 5) (oi := ?oi1u52) (oj := ?oi5u52) (by kernel_rfl) ?hi1u52 ?hi5u52 (fun K hK => ?rest1u52) (fun K hK => ?rest5u52)
          case hi1u52 => (simp only [List.getElem?_toArray, List.getElem?_cons_succ, List.getElem?_cons_zero]; exact rfl)
          case hi5u52 => (simp only [List.getElem?_toArray, List.getElem?_cons_succ, List.getElem?_cons_zero]; exact rfl)
          · go_simp
            go_at_call 25
            refine (mark8 (n := 0) (e := 0) (D := none) Hok.out).mono ?_
            rintro e v3 ⟨rfl, hbq⟩
            have HW3 := Lib.hid (HW2.out.trans (hbq.mono HW2.out.size))
            have Zm3 := Lib.hid ((hbq.block _ (block_lt Zm2.out)).trans Zm2.out)
            clear hbq
            try go_simp
            refine hK _ _ (HS.out _ HW3.out) ?_
            clear hK K hHeld
            have hHeld := HS.out _ HW3.out
            try simp only [Act.put, List.setIfInBounds_toArray, List.set_cons_zero, List.set_cons_succ]
            refine held_one (i := 5) (o := ?oi5u53) (by kernel_rfl) ?hi5u53 (fun K hK => ?rest5u53)
            case hi5u53 => (simp only [List.getElem?_toArray, List.getElem?_cons_succ, List.getElem?_cons_zero]; exact rfl)
            have HW4 := Lib.hid (HW3.out.alloc HW3.out.size (.cells #[.slice none 0 0, .slice none 0 0, .int .i64 0] 25))
            go_simp
            refine hK _ _ (HS.out _ HW4.out) ?_
            clear hK K hHeld
            have hHeld := HS.out _ HW4.out
            try simp only [Act.put, List.setIfInBounds_toArray, List.set_cons_zero, List.set_cons_succ]
            have Zm4 := Lib.hid (((bas v3 (.cells #[.slice none 0 0, .slice none 0 0, .int .i64 0] 25)).block _ (block_lt Zm3.out)).trans Zm3.out)
            have Zh4 := Lib.hid (show (v3.alloc (.cells #[.slice none 0 0, .slice none 0 0, .int .i64 0] 25)).heap[v3.heap.size]? = some (.cells #[.slice none 0 0, .slice none 0 0, .int .i64 0] 25 (0, 0)) from alloc_at rfl)
            have Nh : Hid (X.heap.size ≤ v3.heap.size) := Lib.hid HW3.out.size
            have Nd : Hid (gm ≠ v3.heap.size) := Lib.hid (Nat.ne_of_lt (block_lt Zm3.out))
            generalize v3.alloc (.cells #[.slice none 0 0, .slice none 0 0, .int .i64 0] 25) = v4 at *
            generalize v3.heap.size = gh at *
            have Nd2 : Hid (gm ≠ gh) := Lib.hid Nd.out
            refine held_one (i := 6) (o := ?oi6u54) (by kernel_rfl) ?hi6u54 (fun K hK => ?rest6u54)
            case hi6u54 => (simp only [List.getElem?_toArray, List.getElem?_cons_succ, List.getElem?_cons_zero]; exact rfl)
            obtain ⟨z0, z1, z2, zl, zf0, zf1, zf2⟩ := cells3 Zm4.out
            obtain ⟨F, hF, hm, hk⟩ := store_mark (n := l.length) (m := tr.length) Zm4.out
            have ZM5 := Lib.hid hm
            have Zh5 := Lib.hid ((hk.old gh (block_lt Zh4.out) (fun e => Nd2.out e.symm)).trans Zh4.out)
            have HW5 := Lib.hid (HW4.out.trans (hk.bel.mono Nm.out))
            go_simp
            rw [← hF]
            refine hK _ _ (HS.out _ HW5.out) ?_
            clear hK K hHeld
            have hHeld := HS.out _ HW5.out
            try simp only [Act.put, List.setIfInBounds_toArray, List.set_cons_zero, List.set_cons_succ]
            clear hF hk hm z0 z1 z2 zl zf0 zf1 zf2
            refine held_one (i := 7) (o := ?oi7u55) (by kernel_rfl) ?hi7u55 (fun K hK => ?rest7u55)
            case hi7u55 => (simp only [List.getElem?_toArray, List.getElem?_cons_succ, List.getElem?_cons_zero]; exact rfl)
            obtain ⟨z0, z1, z2, zl, zf0, zf1, zf2⟩ := cells3 Zh5.out
            obtain ⟨F, hF, hm, hk⟩ := store_heap (A := A1) (n := l.length) (c := c1) (B := B1) (m := tr.length) (d := d1) (r := r) Zh5.out
            have ZG6 := Lib.hid hm
            have ZM6 := Lib.hid (ZM5.out.kq hk Nd2.out)
            have HW6 := Lib.hid (HW5.out.trans (hk.bel.mono Nh.out))
            go_simp
            rw [← hF]
            refine hK _ _ (HS.out _ HW6.out) ?_
            clear hK K hHeld
            have hHeld := HS.out _ HW6.out
            try simp only [Act.put, List.setIfInBounds_toArray, List.set_cons_zero, List.set_cons_succ]
            clear hF hk hm z0 z1 z2 zl zf0 zf1 zf2
            refine wpAnyH_take (i := 8) (oi := ?oi8u56) (v := ?v8u56) ?hi8u56 (by kernel_rfl) (by kernel_rfl) (by kernel_rfl) ?hQ8u56 (Or.inl ⟨?hw8u56, ?hy8u56⟩) hHeld ?rest8u56
            case hi8u56 => (simp only [List.getElem?_toArray, List.getElem?_cons_succ, List.getElem?_cons_zero]; exact rfl)
            case hQ8u56 => exact fun _ _ _ h => h
            case hw8u56 => rfl
            case hy8u56 => (intro w hSw; (try dsimp only at hSw); go_simp <;> with_reducible rfl)
            try simp only [Act.put, List.setIfInBounds_toArray, List.set_cons_zero, List.set_cons_succ]
            refine wpAnyH_done (by kernel_rfl) ?_ _
            clear hHeld
            go_wp2_with fail
            go_meet
            exact ⟨gm, gh, _, rfl, rfl, rfl, ZM6.out, ⟨A1, c1, B1, d1, ZG6.out, HC1.out.below HW6.out, HN1.out.below HW6.out⟩, Nh.out, Nd2.out, HW6.out⟩
          · have HW3 := Lib.hid (HW2.out.alloc HW2.out.size (.cells #[.slice none 0 0, .slice none 0 0, .int .i64 0] 25))
            go_simp
            refine hK _ _ (HS.out _ HW3.out) ?_
            clear hK K hHeld
            have hHeld := HS.out _ HW3.out
            try simp only [Act.put, List.setIfInBounds_toArray, List.set_cons_zero, List.set_cons_succ]
            have Zm3 := Lib.hid (((bas v2 (.cells #[.slice none 0 0, .slice none 0 0, .int .i64 0] 25)).block _ (block_lt Zm2.out)).trans Zm2.out)
            have Zh3 := Lib.hid (show (v2.alloc (.cells #[.slice none 0 0, .slice none 0 0, .int .i64 0] 25)).heap[v2.heap.size]? = some (.cells #[.slice none 0 0, .slice none 0 0, .int .i64 0] 25 (0, 0)) from alloc_at rfl)
            have Nh : Hid (X.heap.size ≤ v2.heap.size) := Lib.hid HW2.out.size
            have Nd : Hid (gm ≠ v2.heap.size) := Lib.hid (Nat.ne_of_lt (block_lt Zm2.out))
            generalize v2.alloc (.cells #[.slice none 0 0, .slice none 0 0, .int .i64 0] 25) = v3 at *
            generalize v2.heap.size = gh at *
            have Nd2 : Hid (gm ≠ gh) := Lib.hid Nd.out
            refine held_one (i := 1) (o := ?oi1u57) (by kernel_rfl) ?hi1u57 (fun K hK => ?rest1u57)
            case hi1u57 => (simp only [List.getElem?_toArray, List.getElem?_cons_succ, List.getElem?_cons_zero]; exact rfl)
            go_simp
            go_at_call 25
            refine (mark8 (n := 0) (e := 0) (D := none) Hok.out).mono ?_
            rintro e v4 ⟨rfl, hbq⟩
            have HW4 := Lib.hid (HW3.out.trans (hbq.mono HW3.out.size))
            have Zm4 := Lib.hid ((hbq.block _ (block_lt Zm3.out)).trans Zm3.out)
            have Zh4 := Lib.hid ((hbq.block _ (block_lt Zh3.out)).trans Zh3.out)
            clear hbq
            try go_simp
            refine hK _ _ (HS.out _ HW4.out) ?_
            clear hK K hHeld
            have hHeld := HS.out _ HW4.out
            try simp only [Act.put, List.setIfInBounds_toArray, List.set_cons_zero, List.set_cons_succ]
            refine held_one (i := 6) (o := ?oi6u58) (by kernel_rfl) ?hi6u58 (fun K hK => ?rest6u58)
            case hi6u58 => (simp only [List.getElem?_toArray, List.getElem?_cons_succ, List.getElem?_cons_zero]; exact rfl)
            obtain ⟨z0, z1, z2, zl, zf0, zf1, zf2⟩ := cells3 Zm4.out
            obtain ⟨F, hF, hm, hk⟩ := store_mark (n := l.length) (m := tr.length) Zm4.out
            have ZM5 := Lib.hid hm
            have Zh5 := Lib.hid ((hk.old gh (block_lt Zh4.out) (fun e => Nd2.out e.symm)).trans Zh4.out)
            have HW5 := Lib.hid (HW4.out.trans (hk.bel.mono Nm.out))
            go_simp
            rw [← hF]
            refine hK _ _ (HS.out _ HW5.out) ?_
            clear hK K hHeld
            have hHeld := HS.out _ HW5.out
            try simp only [Act.put, List.setIfInBounds_toArray, List.set_cons_zero, List.set_cons_succ]
            clear hF hk hm z0 z1 z2 zl zf0 zf1 zf2
            refine held_one (i := 7) (o := ?oi7u59) (by kernel_rfl) ?hi7u59 (fun K hK => ?rest7u59)
            case hi7u59 => (simp only [List.getElem?_toArray, List.getElem?_cons_succ, List.getElem?_cons_zero]; exact rfl)
            obtain ⟨z0, z1, z2, zl, zf0, zf1, zf2⟩ := cells3 Zh5.out
            obtain ⟨F, hF, hm, hk⟩ := store_heap (A := A1) (n := l.length) (c := c1) (B := B1) (m := tr.length) (d := d1) (r := r) Zh5.out
            have ZG6 := Lib.hid hm
            have ZM6 := Lib.hid (ZM5.out.kq hk Nd2.out)
            have HW6 := Lib.hid (HW5.out.trans (hk.bel.mono Nh.out))
            go_simp
            rw [← hF]
            refine hK _ _ (HS.out _ HW6.out) ?_
            clear hK K hHeld
            have hHeld := HS.out _ HW6.out
            try simp only [Act.put, List.setIfInBounds_toArray, List.set_cons_zero, List.set_cons_succ]
            clear hF hk hm z0 z1 z2 zl zf0 zf1 zf2
            refine wpAnyH_take (i := 8) (oi := ?oi8u60) (v := ?v8u60) ?hi8u60 (by kernel_rfl) (by kernel_rfl) (by kernel_rfl) ?hQ8u60 (Or.inl ⟨?hw8u60, ?hy8u60⟩) hHeld ?rest8u60
            case hi8u60 => (simp only [List.getElem?_toArray, List.getElem?_cons_succ, List.getElem?_cons_zero]; exact rfl)
            case hQ8u60 => exact fun _ _ _ h => h
            case hw8u60 => rfl
            case hy8u60 => (intro w hSw; (try dsimp only at hSw); go_simp <;> with_reducible rfl)
            try simp only [Act.put, List.setIfInBounds_toArray, List.set_cons_zero, List.set_cons_succ]
            refine wpAnyH_done (by kernel_rfl) ?_ _
            clear hHeld
            go_wp2_with fail
            go_meet
            exact ⟨gm, gh, _, rfl, rfl, rfl, ZM6.out, ⟨A1, c1, B1, d1, ZG6.out, HC1.out.below HW6.out, HN1.out.below HW6.out⟩, Nh.out, Nd2.out, HW6.out⟩
        · have HW2 := Lib.hid (HW1.out.alloc HW1.out.size (.cells #[.slice none 0 0, .slice none 0 0, .int .i64 0] 25))
          go_simp
          refine hK _ _ (HS.out _ HW2.out) ?_
          clear hK K hHeld
          have hHeld := HS.out _ HW2.out
          try simp only [Act.put, List.setIfInBounds_toArray, List.set_cons_zero, List.set_cons_succ]
          have Zh2 := Lib.hid (show (v1.alloc (.cells #[.slice none 0 0, .slice none 0 0, .int .i64 0] 25)).heap[v1.heap.size]? = some (.cells #[.slice none 0 0, .slice none 0 0, .int .i64 0] 25 (0, 0)) from alloc_at rfl)
          have Nh : Hid (X.heap.size ≤ v1.heap.size) := Lib.hid HW1.out.size
          generalize v1.alloc (.cells #[.slice none 0 0, .slice none 0 0, .int .i64 0] 25) = v2 at *
          generalize v1.heap.size = gh at *
          refine held_two (i := 1) (j := 4) (oi := ?oi1u61) (oj := ?oi4u61) (by kernel_rfl) ?hi1u61 ?hi4u61 (fun K hK => ?rest1u61) (fun K hK => ?rest4u61)
          case hi1u61 => (simp only [List.getElem?_toArray, List.getElem?_cons_succ, List.getElem?_cons_zero]; exact rfl)
          case hi4u61 => (simp only [List.getElem?_toArray, List.getElem?_cons_succ, List.getElem?_cons_zero]; exact rfl)
          · go_simp
            go_at_call 25
            refine (mark8 (n := 0) (e := 0) (D := none) Hok.out).mono ?_
            rintro e v3 ⟨rfl, hbq⟩
            have HW3 := Lib.hid (HW2.out.trans (hbq.mono HW2.out.size))
            have Zh3 := Lib.hid ((hbq.block _ (block_lt Zh2.out)).trans Zh2.out)
            clear hbq
            try go_simp
            refine hK _ _ (HS.out _ HW3.out) ?_
            clear hK K hHeld
            have hHeld := HS.out _ HW3.out
            try simp only [Act.put, List.setIfInBounds_toArray, List.set_cons_zero, List.set_cons_succ]
            refine held_one (i := 4) (o := ?oi4u62) (by kernel_rfl) ?hi4u62 (fun K hK => ?rest4u62)
            case hi4u62 => (simp only [List.getElem?_toArray, List.getElem?_cons_succ, List.getElem?_cons_zero]; exact rfl)
            have HW4 := Lib.hid (HW3.out.alloc HW3.out.size (.cells #[.int .i64 0, .int .i64 0, .slice none 0 0] 43))
            go_simp
            refine hK _ _ (HS.out _ HW4.out) ?_
            clear hK K hHeld
            have hHeld := HS.out _ HW4.out
            try simp only [Act.put, List.setIfInBounds_toArray, List.set_cons_zero, List.set_cons_succ]
            have Zh4 := Lib.hid (((bas v3 (.cells #[.int .i64 0, .int .i64 0, .slice none 0 0] 43)).block _ (block_lt Zh3.out)).trans Zh3.out)
            have Zm4 := Lib.hid (show (v3.alloc (.cells #[.int .i64 0, .int .i64 0, .slice none 0 0] 43)).heap[v3.heap.size]? = some (.cells #[.int .i64 0, .int .i64 0, .slice none 0 0] 43 (0, 0)) from alloc_at rfl)
            have Nm : Hid (X.heap.size ≤ v3.heap.size) := Lib.hid HW3.out.size
            have Nd : Hid (gh ≠ v3.heap.size) := Lib.hid (Nat.ne_of_lt (block_lt Zh3.out))
            generalize v3.alloc (.cells #[.int .i64 0, .int .i64 0, .slice none 0 0] 43) = v4 at *
            generalize v3.heap.size = gm at *
            have Nd2 : Hid (gm ≠ gh) := Lib.hid (fun e => Nd.out e.symm)
            refine held_one (i := 6) (o := ?oi6u63) (by kernel_rfl) ?hi6u63 (fun K hK => ?rest6u63)
            case hi6u63 => (simp only [List.getElem?_toArray, List.getElem?_cons_succ, List.getElem?_cons_zero]; exact rfl)
            obtain ⟨z0, z1, z2, zl, zf0, zf1, zf2⟩ := cells3 Zm4.out
            obtain ⟨F, hF, hm, hk⟩ := store_mark (n := l.length) (m := tr.length) Zm4.out
            have ZM5 := Lib.hid hm
            have Zh5 := Lib.hid ((hk.old gh (block_lt Zh4.out) (fun e => Nd2.out e.symm)).trans Zh4.out)
            have HW5 := Lib.hid (HW4.out.trans (hk.bel.mono Nm.out))
            go_simp
            rw [← hF]
            refine hK _ _ (HS.out _ HW5.out) ?_
            clear hK K hHeld
            have hHeld := HS.out _ HW5.out
            try simp only [Act.put, List.setIfInBounds_toArray, List.set_cons_zero, List.set_cons_succ]
            clear hF hk hm z0 z1 z2 zl zf0 zf1 zf2
            refine held_one (i := 7) (o := ?oi7u64) (by kernel_rfl) ?hi7u64 (fun K hK => ?rest7u64)
            case hi7u64 => (simp only [List.getElem?_toArray, List.getElem?_cons_succ, List.getElem?_cons_zero]; exact rfl)
            obtain ⟨z0, z1, z2, zl, zf0, zf1, zf2⟩ := cells3 Zh5.out
            obtain ⟨F, hF, hm, hk⟩ := store_heap (A := A1) (n := l.length) (c := c1) (B := B1) (m := tr.length) (d := d1) (r := r) Zh5.out
            have ZG6 := Lib.hid hm
            have ZM6 := Lib.hid (ZM5.out.kq hk Nd2.out)
            have HW6 := Lib.hid (HW5.out.trans (hk.bel.mono Nh.out))
            go_simp
            rw [← hF]
            refine hK _ _ (HS.out _ HW6.out) ?_
            clear hK K hHeld
            have hHeld := HS.out _ HW6.out
            try simp only [Act.put, List.setIfInBounds_toArray, List.set_cons_zero, List.set_cons_succ]
            clear hF hk hm z0 z1 z2 zl zf0 zf1 zf2
            refine wpAnyH_take (i := 8) (oi := ?oi8u65) (v := ?v8u65) ?hi8u65 (by kernel_rfl) (by kernel_rfl) (by kernel_rfl) ?hQ8u65 (Or.inl ⟨?hw8u65, ?hy8u65⟩) hHeld ?rest8u65
            case hi8u65 => (simp only [List.getElem?_toArray, List.getElem?_cons_succ, List.getElem?_cons_zero]; exact rfl)
            case hQ8u65 => exact fun _ _ _ h => h
            case hw8u65 => rfl
            case hy8u65 => (intro w hSw; (try dsimp only at hSw); go_simp <;> with_reducible rfl)
            try simp only [Act.put, List.setIfInBounds_toArray, List.set_cons_zero, List.set_cons_succ]
            refine wpAnyH_done (by kernel_rfl) ?_ _
            clear hHeld
            go_wp2_with fail
            go_meet
            exact ⟨gm, gh, _, rfl, rfl, rfl, ZM6.out, ⟨A1, c1, B1, d1, ZG6.out, HC1.out.below HW6.out, HN1.out.below HW6.out⟩, Nh.out, Nd2.out, HW6.out⟩
          · have HW3 := Lib.hid (HW2.out.alloc HW2.out.size (.cells #[.int .i64 0, .int .i64 0, .slice none 0 0] 43))
            go_simp
            refine hK _ _ (HS.out _ HW3.out) ?_
            clear hK K hHeld
            have hHeld := HS.out _ HW3.out
            try simp only [Act.put, List.setIfInBounds_toArray, List.set_cons_zero, List.set_cons_succ]
            have Zh3 := Lib.hid (((bas v2 (.cells #[.int .i64 0, .int .i64 0, .slice none 0 0] 43)).block _ (block_lt Zh2.out)).trans Zh2.out)
            have Zm3 := Lib.hid (show (v2.alloc (.cells #[.int .i64 0, .int .i64 0, .slice none 0 0] 43)).heap[v2.heap.size]? = some (.cells #[.int .i64 0, .int .i64 0, .slice none 0 0] 43 (0, 0)) from alloc_at rfl)
            have Nm : Hid (X.heap.size ≤ v2.heap.size) := Lib.hid HW2.out.size
            have Nd : Hid (gh ≠ v2.heap.size) := Lib.hid (Nat.ne_of_lt (block_lt Zh2.out))
            generalize v2.alloc (.cells #[.int .i64 0, .int .i64 0, .slice none 0 0] 43) = v3 at *
            generalize v2.heap.size = gm at *
            have Nd2 : Hid (gm ≠ gh) := Lib.hid (fun e => Nd.out e.symm)
            refine held_one (i := 1) (o := ?oi1u66) (by kernel_rfl) ?hi1u66 (fun K hK => ?rest1u66)
            case hi1u66 => (simp only [List.getElem?_toArray, List.getElem?_cons_succ, List.getElem?_cons_zero]; exact rfl)
            go_simp
            go_at_call 25
            refine (mark8 (n := 0) (e := 0) (D := none) Hok.out).mono ?_
            rintro e v4 ⟨rfl, hbq⟩
            have HW4 := Lib.hid (HW3.out.trans (hbq.mono HW3.out.size))
            have Zh4 := Lib.hid ((hbq.block _ (block_lt Zh3.out)).trans Zh3.out)
            have Zm4 := Lib.hid ((hbq.block _ (block_lt Zm3.out)).trans Zm3.out)
            clear hbq
            try go_simp
            refine hK _ _ (HS.out _ HW4.out) ?_
            clear hK K hHeld
            have hHeld := HS.out _ HW4.out
            try simp only [Act.put, List.setIfInBounds_toArray, List.set_cons_zero, List.set_cons_succ]
            refine held_one (i := 6) (o := ?oi6u67) (by kernel_rfl) ?hi6u67 (fun K hK => ?rest6u67)
            case hi6u67 => (simp only [List.getElem?_toArray, List.getElem?_cons_succ, List.getElem?_cons_zero]; exact rfl)
            obtain ⟨z0, z1, z2, zl, zf0, zf1, zf2⟩ := cells3 Zm4.out
            obtain ⟨F, hF, hm, hk⟩ := store_mark (n := l.length) (m := tr.length) Zm4.out
            have ZM5 := Lib.hid hm
            have Zh5 := Lib.hid ((hk.old gh (block_lt Zh4.out) (fun e => Nd2.out e.symm)).trans Zh4.out)
            have HW5 := Lib.hid (HW4.out.trans (hk.bel.mono Nm.out))
            go_simp
            rw [← hF]
            refine hK _ _ (HS.out _ HW5.out) ?_
            clear hK K hHeld
            have hHeld := HS.out _ HW5.out
            try simp only [Act.put, List.setIfInBounds_toArray, List.set_cons_zero, List.set_cons_succ]
            clear hF hk hm z0 z1 z2 zl zf0 zf1 zf2
            refine held_one (i := 7) (o := ?oi7u68) (by kernel_rfl) ?hi7u68 (fun K hK => ?rest7u68)
            case hi7u68 => (simp only [List.getElem?_toArray, List.getElem?_cons_succ, List.getElem?_cons_zero]; exact rfl)
            obtain ⟨z0, z1, z2, zl, zf0, zf1, zf2⟩ := cells3 Zh5.out
            obtain ⟨F, hF, hm, hk⟩ := store_heap (A := A1) (n := l.length) (c := c1) (B := B1) (m := tr.length) (d := d1) (r := r) Zh5.out
            have ZG6 := Lib.hid hm
            have ZM6 := Lib.hid (ZM5.out.kq hk Nd2.out)
            have HW6 := Lib.hid (HW5.out.trans (hk.bel.mono Nh.out))
            go_simp
            rw [← hF]
            refine hK _ _ (HS.out _ HW6.out) ?_
            clear hK K hHeld
            have hHeld := HS.out _ HW6.out
            try simp only [Act.put, List.setIfInBounds_toArray, List.set_cons_zero, List.set_cons_succ]
            clear hF hk hm z0 z1 z2 zl zf0 zf1 zf2
            refine wpAnyH_take (i := 8) (oi := ?oi8u69) (v := ?v8u69) ?hi8u69 (by kernel_rfl) (by kernel_rfl) (by kernel_rfl) ?hQ8u69 (Or.inl ⟨?hw8u69, ?hy8u69⟩) hHeld ?rest8u69
            case hi8u69 => (simp only [List.getElem?_toArray, List.getElem?_cons_succ, List.getElem?_cons_zero]; exact rfl)
            case hQ8u69 => exact fun _ _ _ h => h
            case hw8u69 => rfl
            case hy8u69 => (intro w hSw; (try dsimp only at hSw); go_simp <;> with_reducible rfl)
            try simp only [Act.put, List.setIfInBounds_toArray, List.set_cons_zero, List.set_cons_succ]
            refine wpAnyH_done (by kernel_rfl) ?_ _
            clear hHeld
            go_wp2_with fail
            go_meet
            exact ⟨gm, gh, _, rfl, rfl, rfl, ZM6.out, ⟨A1, c1, B1, d1, ZG6.out, HC1.out.below HW6.out, HN1.out.below HW6.out⟩, Nh.out, Nd2.out, HW6.out⟩
      · have HW1 := Lib.hid (HV.out.alloc HV.out.size (.cells #[.int .i64 0, .int .i64 0, .slice none 0 0] 43))
        go_simp
        refine hK _ _ (HS.out _ HW1.out) ?_
        clear hK K hHeld
        have hHeld := HS.out _ HW1.out
        try simp only [Act.put, List.setIfInBounds_toArray, List.set_cons_zero, List.set_cons_succ]
        have Zm1 := Lib.hid (show (V.alloc (.cells #[.int .i64 0, .int .i64 0, .slice none 0 0] 43)).heap[V.heap.size]? = some (.cells #[.int .i64 0, .int .i64 0, .slice none 0 0] 43 (0, 0)) from alloc_at rfl)
        have Nm : Hid (X.heap.size ≤ V.heap.size) := Lib.hid HV.out.size
        generalize V.alloc (.cells #[.int .i64 0, .int .i64 0, .slice none 0 0] 43) = v1 at *
        generalize V.heap.size = gm at *
        refine held_three (i := 1) (j := 3) (k := 5) (oi := ?oi1u70) (oj := ?oi3u70) (ok := ?oi5u70) (by kernel_rfl) ?hi1u70 ?hi3u70 ?hi5u70 (fun K hK => ?rest1u70) (fun K hK => ?rest3u70) (fun K hK => ?rest5u70)
        case hi1u70 => (simp only [List.getElem?_toArray, List.getElem?_cons_succ, List.getElem?_cons_zero]; exact rfl)
        case hi3u70 => (simp only [List.getElem?_toArray, List.getElem?_cons_succ, List.getElem?_cons_zero]; exact rfl)
        case hi5u70 => (simp only [List.getElem?_toArray, List.getElem?_cons_succ, List.getElem?_cons_zero]; exact rfl)
        · go_simp
          go_at_call 25
          refine (mark8 (n := 0) (e := 0) (D := none) Hok.out).mono ?_
          rintro e v2 ⟨rfl, hbq⟩
          have HW2 := Lib.hid (HW1.out.trans (hbq.mono HW1.out.size))
          have Zm2 := Lib.hid ((hbq.block _ (block_lt Zm1.out)).trans Zm1.out)
          clear hbq
          try go_simp
          refine hK _ _ (HS.out _ HW2.out) ?_
          clear hK K hHeld
          have hHeld := HS.out _ HW2.out
          try simp only [Act.put, List.setIfInBounds_toArray, List.set_cons_zero, List.set_cons_succ]
          refine held_two (i := 3) (j := 5) (oi := ?oi3u71) (oj := ?oi5u71) (by kernel_rfl) ?hi3u71 ?hi5u71 (fun K hK => ?rest3u71) (fun K hK => ?rest5u71)
          case hi3u71 => (simp only [List.getElem?_toArray, List.getElem?_cons_succ, List.getElem?_cons_zero]; exact rfl)
          case hi5u71 => (simp only [List.getElem?_toArray, List.getElem?_cons_succ, List.getElem?_cons_zero]; exact rfl)
          · have HW3 := Lib.hid (HW2.out.alloc HW2.out.size (.cells #[] 3))
            go_simp
            refine hK _ _ (HS.out _ HW3.out) ?_
            clear hK K hHeld
            have hHeld := HS.out _ HW3.out
            try simp only [Act.put, List.setIfInBounds_toArray, List.set_cons_zero, List.set_cons_succ]
            have Zm3 := Lib.hid (((bas v2 (.cells #[] 3)).block _ (block_lt Zm2.out)).trans Zm2.out)
            generalize v2.alloc (.cells #[] 3) = v3 at *
            generalize v2.heap.size = gz at *
            refine held_one (i := 5) (o := ?oi5u72) (by kernel_rfl) ?hi5u72 (fun K hK => ?rest5u72)
            case hi5u72 => (simp only [List.getElem?_toArray, List.getElem?_cons_succ, List.getElem?_cons_zero]; exact rfl)
            have HW4 := Lib.hid (HW3.out.alloc HW3.out.size (.cells #[.slice none 0 0, .slice none 0 0, .int .i64 0] 25))
            go_simp
            refine hK _ _ (HS.out _ HW4.out) ?_
            clear hK K hHeld
            have hHeld := HS.out _ HW4.out
            try simp only [Act.put, List.setIfInBounds_toArray, List.set_cons_zero, List.set_cons_succ]
            have Zm4 := Lib.hid (((bas v3 (.cells #[.slice none 0 0, .slice none 0 0, .int .i64 0] 25)).block _ (block_lt Zm3.out)).trans Zm3.out)
            have Zh4 := Lib.hid (show (v3.alloc (.cells #[.slice none 0 0, .slice none 0 0, .int .i64 0] 25)).heap[v3.heap.size]? = some (.cells #[.slice none 0 0, .slice none 0 0, .int .i64 0] 25 (0, 0)) from alloc_at rfl)
            have Nh : Hid (X.heap.size ≤ v3.heap.size) := Lib.hid HW3.out.size
            have Nd : Hid (gm ≠ v3.heap.size) := Lib.hid (Nat.ne_of_lt (block_lt Zm3.out))
            generalize v3.alloc (.cells #[.slice none 0 0, .slice none 0 0, .int .i64 0] 25) = v4 at *
            generalize v3.heap.size = gh at *
            have Nd2 : Hid (gm ≠ gh) := Lib.hid Nd.out
            refine held_one (i := 6) (o := ?oi6u73) (by kernel_rfl) ?hi6u73 (fun K hK => ?rest6u73)
            case hi6u73 => (simp only [List.getElem?_toArray, List.getElem?_cons_succ, List.getElem?_cons_zero]; exact rfl)
            obtain ⟨z0, z1, z2, zl, zf0, zf1, zf2⟩ := cells3 Zm4.out
            obtain ⟨F, hF, hm, hk⟩ := store_mark (n := l.length) (m := tr.length) Zm4.out
            have ZM5 := Lib.hid hm
            have Zh5 := Lib.hid ((hk.old gh (block_lt Zh4.out) (fun e => Nd2.out e.symm)).trans Zh4.out)
            have HW5 := Lib.hid (HW4.out.trans (hk.bel.mono Nm.out))
            go_simp
            rw [← hF]
            refine hK _ _ (HS.out _ HW5.out) ?_
            clear hK K hHeld
            have hHeld := HS.out _ HW5.out
            try simp only [Act.put, List.setIfInBounds_toArray, List.set_cons_zero, List.set_cons_succ]
            clear hF hk hm z0 z1 z2 zl zf0 zf1 zf2
            refine held_one (i := 7) (o := ?oi7u74) (by kernel_rfl) ?hi7u74 (fun K hK => ?rest7u74)
            case hi7u74 => (simp only [List.getElem?_toArray, List.getElem?_cons_succ, List.getElem?_cons_zero]; exact rfl)
            obtain ⟨z0, z1, z2, zl, zf0, zf1, zf2⟩ := cells3 Zh5.out
            obtain ⟨F, hF, hm, hk⟩ := store_heap (A := A1) (n := l.length) (c := c1) (B := B1) (m := tr.length) (d := d1) (r := r) Zh5.out
            have ZG6 := Lib.hid hm
            have ZM6 := Lib.hid (ZM5.out.kq hk Nd2.out)
            have HW6 := Lib.hid (HW5.out.trans (hk.bel.mono Nh.out))
            go_simp
            rw [← hF]
            refine hK _ _ (HS.out _ HW6.out) ?_
            clear hK K hHeld
            have hHeld := HS.out _ HW6.out
            try simp only [Act.put, List.setIfInBounds_toArray, List.set_cons_zero, List.set_cons_succ]
            clear hF hk hm z0 z1 z2 zl zf0 zf1 zf2
            refine wpAnyH_take (i := 8) (oi := ?oi8u75) (v := ?v8u75) ?hi8u75 (by kernel_rfl) (by kernel_rfl) (by kernel_rfl) ?hQ8u75 (Or.inl ⟨?hw8u75, ?hy8u75⟩) hHeld ?rest8u75
            case hi8u75 => (simp only [List.getElem?_toArray, List.getElem?_cons_succ, List.getElem?_cons_zero]; exact rfl)
            case hQ8u75 => exact fun _ _ _ h => h
            case hw8u75 => rfl
            case hy8u75 => (intro w hSw; (try dsimp only at hSw); go_simp <;> with_reducible rfl)
            try simp only [Act.put, List.setIfInBounds_toArray, List.set_cons_zero, List.set_cons_succ]
            refine wpAnyH_done (by kernel_rfl) ?_ _
            clear hHeld
            go_wp2_with fail
            go_meet
            exact ⟨gm, gh, _, rfl, rfl, rfl, ZM6.out, ⟨A1, c1, B1, d1, ZG6.out, HC1.out.below HW6.out, HN1.out.below HW6.out⟩, Nh.out, Nd2.out, HW6.out⟩
          · have HW3 := Lib.hid (HW2.out.alloc HW2.out.size (.cells #[.slice none 0 0, .slice none 0 0, .int .i64 0] 25))
            go_simp
            refine hK _ _ (HS.out _ HW3.out) ?_
            clear hK K hHeld
            have hHeld := HS.out _ HW3.out
            try simp only [Act.put, List.setIfInBounds_toArray, List.set_cons_zero, List.set_cons_succ]
            have Zm3 := Lib.hid (((bas v2 (.cells #[.slice none 0 0, .slice none 0 0, .int .i64 0] 25)).block _ (block_lt Zm2.out)).trans Zm2.out)
            have Zh3 := Lib.hid (show (v2.alloc (.cells #[.slice none 0 0, .slice none 0 0, .int .i64 0] 25)).heap[v2.heap.size]? = some (.cells #[.slice none 0 0, .slice none 0 0, .int .i64 0] 25 (0, 0)) from alloc_at rfl)
            have Nh : Hid (X.heap.size ≤ v2.heap.size) := Lib.hid HW2.out.size
            have Nd : Hid (gm ≠ v2.heap.size) := Lib.hid (Nat.ne_of_lt (block_lt Zm2.out))
            generalize v2.alloc (.cells #[.slice none 0 0, .slice none 0 0, .int .i64 0] 25) = v3 at *
            generalize v2.heap.size = gh at *
            have Nd2 : Hid (gm ≠ gh) := Lib.hid Nd.out
            refine held_two (i := 3) (j := 6) (oi := ?oi3u76) (oj := ?oi6u76) (by kernel_rfl) ?hi3u76 ?hi6u76 (fun K hK => ?rest3u76) (fun K hK => ?rest6u76)
            case hi3u76 => (simp only [List.getElem?_toArray, List.getElem?_cons_succ, List.getElem?_cons_zero]; exact rfl)
            case hi6u76 => (simp only [List.getElem?_toArray, List.getElem?_cons_succ, List.getElem?_cons_zero]; exact rfl)
            · have HW4 := Lib.hid (HW3.out.alloc HW3.out.size (.cells #[] 3))
              go_simp
              refine hK _ _ (HS.out _ HW4.out) ?_
              clear hK K hHeld
              have hHeld := HS.out _ HW4.out
              try simp only [Act.put, List.setIfInBounds_toArray, List.set_cons_zero, List.set_cons_succ]
              have Zm4 := Lib.hid (((bas v3 (.cells #[] 3)).block _ (block_lt Zm3.out)).trans Zm3.out)
              have Zh4 := Lib.hid (((bas v3 (.cells #[] 3)).block _ (block_lt Zh3.out)).trans Zh3.out)
              generalize v3.alloc (.cells #[] 3) = v4 at *
              generalize v3.heap.size = gz at *
              refine held_one (i := 6) (o := ?oi6u77) (by kernel_rfl) ?hi6u77 (fun K hK => ?rest6u77)
              case hi6u77 => (simp only [List.getElem?_toArray, List.getElem?_cons_succ, List.getElem?_cons_zero]; exact rfl)
              obtain ⟨z0, z1, z2, zl, zf0, zf1, zf2⟩ := cells3 Zm4.out
              obtain ⟨F, hF, hm, hk⟩ := store_mark (n := l.length) (m := tr.length) Zm4.out
              have ZM5 := Lib.hid hm
              have Zh5 := Lib.hid ((hk.old gh (block_lt Zh4.out) (fun e => Nd2.out e.symm)).trans Zh4.out)
              have HW5 := Lib.hid (HW4.out.trans (hk.bel.mono Nm.out))
              go_simp
              rw [← hF]
              refine hK _ _ (HS.out _ HW5.out) ?_
              clear hK K hHeld
              have hHeld := HS.out _ HW5.out
              try simp only [Act.put, List.setIfInBounds_toArray, List.set_cons_zero, List.set_cons_succ]
              clear hF hk hm z0 z1 z2 zl zf0 zf1 zf2
              refine held_one (i := 7) (o := ?oi7u78) (by kernel_rfl) ?hi7u78 (fun K hK => ?rest7u78)
              case hi7u78 => (simp only [List.getElem?_toArray, List.getElem?_cons_succ, List.getElem?_cons_zero]; exact rfl)
              obtain ⟨z0, z1, z2, zl, zf0, zf1, zf2⟩ := cells3 Zh5.out
              obtain ⟨F, hF, hm, hk⟩ := store_heap (A := A1) (n := l.length) (c := c1) (B := B1) (m := tr.length) (d := d1) (r := r) Zh5.out
              have ZG6 := Lib.hid hm
              have ZM6 := Lib.hid (ZM5.out.kq hk Nd2.out)
              have HW6 := Lib.hid (HW5.out.trans (hk.bel.mono Nh.out))
              go_simp
              rw [← hF]
              refine hK _ _ (HS.out _ HW6.out) ?_
              clear hK K hHeld
              have hHeld := HS.out _ HW6.out
              try simp only [Act.put, List.setIfInBounds_toArray, List.set_cons_zero, List.set_cons_succ]
              clear hF hk hm z0 z1 z2 zl zf0 zf1 zf2
              refine wpAnyH_take (i := 8) (oi := ?oi8u79) (v := ?v8u79) ?hi8u79 (by kernel_rfl) (by kernel_rfl) (by kernel_rfl) ?hQ8u79 (Or.inl ⟨?hw8u79, ?hy8u79⟩) hHeld ?rest8u79
              case hi8u79 => (simp only [List.getElem?_toArray, List.getElem?_cons_succ, List.getElem?_cons_zero]; exact rfl)
              case hQ8u79 => exact fun _ _ _ h => h
              case hw8u79 => rfl
              case hy8u79 => (intro w hSw; (try dsimp only at hSw); go_simp <;> with_reducible rfl)
              try simp only [Act.put, List.setIfInBounds_toArray, List.set_cons_zero, List.set_cons_succ]
              refine wpAnyH_done (by kernel_rfl) ?_ _
              clear hHeld
              go_wp2_with fail
              go_meet
              exact ⟨gm, gh, _, rfl, rfl, rfl, ZM6.out, ⟨A1, c1, B1, d1, ZG6.out, HC1.out.below HW6.out, HN1.out.below HW6.out⟩, Nh.out, Nd2.out, HW6.out⟩
            · obtain ⟨z0, z1, z2, zl, zf0, zf1, zf2⟩ := cells3 Zm3.out
              obtain ⟨F, hF, hm, hk⟩ := store_mark (n := l.length) (m := tr.length) Zm3.out
              have ZM4 := Lib.hid hm
              have Zh4 := Lib.hid ((hk.old gh (block_lt Zh3.out) (fun e => Nd2.out e.symm)).trans Zh3.out)
              have HW4 := Lib.hid (HW3.out.trans (hk.bel.mono Nm.out))
              go_simp
              rw [← hF]
              refine hK _ _ (HS.out _ HW4.out) ?_
              clear hK K hHeld
              have hHeld := HS.out _ HW4.out
              try simp only [Act.put, List.setIfInBounds_toArray, List.set_cons_zero, List.set_cons_succ]
              clear hF hk hm z0 z1 z2 zl zf0 zf1 zf2
              refine held_two (i := 3) (j := 7) (oi := ?oi3u80) (oj := ?oi7u80) (by kernel_rfl) ?hi3u80 ?hi7u80 (fun K hK => ?rest3u80) (fun K hK => ?rest7u80)
              case hi3u80 => (simp only [List.getElem?_toArray, List.getElem?_cons_succ, List.getElem?_cons_zero]; exact rfl)
              case hi7u80 => (simp only [List.getElem?_toArray, List.getElem?_cons_succ, List.getElem?_cons_zero]; exact rfl)
              · have HW5 := Lib.hid (HW4.out.alloc HW4.out.size (.cells #[] 3))
                go_simp
                refine hK _ _ (HS.out _ HW5.out) ?_
                clear hK K hHeld
                have hHeld := HS.out _ HW5.out
                try simp only [Act.put, List.setIfInBounds_toArray, List.set_cons_zero, List.set_cons_succ]
                have ZM5 := Lib.hid (ZM4.out.below (bas F (.cells #[] 3)))
                have Zh5 := Lib.hid (((bas F (.cells #[] 3)).block _ (block_lt Zh4.out)).trans Zh4.out)
                generalize F.alloc (.cells #[] 3) = v5 at *
                generalize F.heap.size = gz at *
                refine held_one (i := 7) (o := ?oi7u81) (by kernel_rfl) ?hi7u81 (fun K hK => ?rest7u81)
                case hi7u81 => (simp only [List.getElem?_toArray, List.getElem?_cons_succ, List.getElem?_cons_zero]; exact rfl)
                obtain ⟨z0, z1, z2, zl, zf0, zf1, zf2⟩ := cells3 Zh5.out
                obtain ⟨F, hF, hm, hk⟩ := store_heap (A := A1) (n := l.length) (c := c1) (B := B1) (m := tr.length) (d := d1) (r := r) Zh5.out
                have ZG6 := Lib.hid hm
                have ZM6 := Lib.hid (ZM5.out.kq hk Nd2.out)
                have HW6 := Lib.hid (HW5.out.trans (hk.bel.mono Nh.out))
                go_simp
                rw [← hF]
                refine hK _ _ (HS.out _ HW6.out) ?_
                clear hK K hHeld
                have hHeld := HS.out _ HW6.out
                try simp only [Act.put, List.setIfInBounds_toArray, List.set_cons_zero, List.set_cons_succ]
                clear hF hk hm z0 z1 z2 zl zf0 zf1 zf2
                refine wpAnyH_take (i := 8) (oi := ?oi8u82) (v := ?v8u82) ?hi8u82 (by kernel_rfl) (by kernel_rfl) (by kernel_rfl) ?hQ8u82 (Or.inl ⟨?hw8u82, ?hy8u82⟩) hHeld ?rest8u82
                case hi8u82 => (simp only [List.getElem?_toArray, List.getElem?_cons_succ, List.getElem?_cons_zero]; exact rfl)
                case hQ8u82 => exact fun _ _ _ h => h
                case hw8u82 => rfl
                case hy8u82 => (intro w hSw; (try dsimp only at hSw); go_simp <;> with_reducible rfl)
                try simp only [Act.put, List.setIfInBounds_toArray, List.set_cons_zero, List.set_cons_succ]
                refine wpAnyH_done (by kernel_rfl) ?_ _
                clear hHeld
                go_wp2_with fail
                go_meet
                exact ⟨gm, gh, _, rfl, rfl, rfl, ZM6.out, ⟨A1, c1, B1, d1, ZG6.out, HC1.out.below HW6.out, HN1.out.below HW6.out⟩, Nh.out, Nd2.out, HW6.out⟩
              · obtain ⟨z0, z1, z2, zl, zf0, zf1, zf2⟩ := cells3 Zh4.out
                obtain ⟨F, hF, hm, hk⟩ := store_heap (A := A1) (n := l.length) (c := c1) (B := B1) (m := tr.length) (d := d1) (r := r) Zh4.out
                have ZG5 := Lib.hid hm
                have ZM5 := Lib.hid (ZM4.out.kq hk Nd2.out)
                have HW5 := Lib.hid (HW4.out.trans (hk.bel.mono Nh.out))
                go_simp
                rw [← hF]
                refine hK _ _ (HS.out _ HW5.out) ?_
                clear hK K hHeld
                have hHeld := HS.out _ HW5.out
                try simp only [Act.put, List.setIfInBounds_toArray, List.set_cons_zero, List.set_cons_succ]
                clear hF hk hm z0 z1 z2 zl zf0 zf1 zf2
                refine held_one (i := 3) (o := ?oi3u83) (by kernel_rfl) ?hi3u83 (fun K hK => ?rest3u83)
                case hi3u83 => (simp only [List.getElem?_toArray, List.getElem?_cons_succ, List.getElem?_cons_zero]; exact rfl)
                have HW6 := Lib.hid (HW5.out.alloc HW5.out.size (.cells #[] 3))
                go_simp
                refine hK _ _ (HS.out _ HW6.out) ?_
                clear hK K hHeld
                have hHeld := HS.out _ HW6.out
                try simp only [Act.put, List.setIfInBounds_toArray, List.set_cons_zero, List.set_cons_succ]
                have ZM6 := Lib.hid (ZM5.out.below (bas F (.cells #[] 3)))
                have ZG6 := Lib.hid (((bas F (.cells #[] 3)).block _ (block_lt ZG5.out)).trans ZG5.out)
                generalize F.alloc (.cells #[] 3) = v6 at *
                generalize F.heap.size = gz at *
                refine wpAnyH_take (i := 8) (oi := ?oi8u84) (v := ?v8u84) ?hi8u84 (by kernel_rfl) (by kernel_rfl) (by kernel_rfl) ?hQ8u84 (Or.inl ⟨?hw8u84, ?hy8u84⟩) hHeld ?rest8u84
                case hi8u84 => (simp only [List.getElem?_toArray, List.getElem?_cons_succ, List.getElem?_cons_zero]; exact rfl)
                case hQ8u84 => exact fun _ _ _ h => h
                case hw8u84 => rfl
                case hy8u84 => (intro w hSw; (try dsimp only at hSw); go_simp <;> with_reducible rfl)
                try simp only [Act.put, List.setIfInBounds_toArray, List.set_cons_zero, List.set_cons_succ]
                refine wpAnyH_done (by kernel_rfl) ?_ _
                clear hHeld
                go_wp2_with fail
                go_meet
                exact ⟨gm, gh, _, rfl, rfl, rfl, ZM6.out, ⟨A1, c1, B1, d1, ZG6.out, HC1.out.below HW6.out, HN1.out.below HW6.out⟩, Nh.out, Nd2.out, HW6.out⟩
        · have HW2 := Lib.hid (HW1.out.alloc HW1.out.size (.cells #[] 3))
          go_simp
          refine hK _ _ (HS.out _ HW2.out) ?_
          clear hK K hHeld
          have hHeld := HS.out _ HW2.out
          try simp only [Act.put, List.setIfInBounds_toArray, List.set_cons_zero, List.set_cons_succ]
          have Zm2 := Lib.hid (((bas v1 (.cells #[] 3)).block _ (block_lt Zm1.out)).trans Zm1.out)
          generalize v1.alloc (.cells #[] 3) = v2 at *
          generalize v1.heap.size = gz at *
          refine held_two (i := 1) (j := 5) (oi := ?oi1u85) (oj := ?oi5u85) (by kernel_rfl) ?hi1u85 ?hi5u85 (fun K hK => ?rest1u85) (fun K hK => ?rest5u85)
          case hi1u85 => (simp only [List.getElem?_toArray, List.getElem?_cons_succ, List.getElem?_cons_zero]; exact rfl)
          case hi5u85 => (simp only [List.getElem?_toArray, List.getElem?_cons_succ, List.getElem?_cons_zero]; exact rfl)
          · go_simp
            go_at_call 25
            refine (mark8 (n := 0) (e := 0) (D := none) Hok.out).mono ?_
            rintro e v3 ⟨rfl, hbq⟩
            have HW3 := Lib.hid (HW2.out.trans (hbq.mono HW2.out.size))
            have Zm3 := Lib.hid ((hbq.block _ (block_lt Zm2.out)).trans Zm2.out)
            clear hbq
            try go_simp
            refine hK _ _ (HS.out _ HW3.out) ?_
            clear hK K hHeld
            have hHeld := HS.out _ HW3.out
            try simp only [Act.put, List.setIfInBounds_toArray, List.set_cons_zero, List.set_cons_succ]
            refine held_one (i := 5) (o := ?oi5u86) (by kernel_rfl) ?hi5u86 (fun K hK => ?rest5u86)
            case hi5u86 => (simp only [List.getElem?_toArray, List.getElem?_cons_succ, List.getElem?_cons_zero]; exact rfl)
            have HW4 := Lib.hid (HW3.out.alloc HW3.out.size (.cells #[.slice none 0 0, .slice none 0 0, .int .i64 0] 25))
            go_simp
            refine hK _ _ (HS.out _ HW4.out) ?_
            clear hK K hHeld
            have hHeld := HS.out _ HW4.out
            try simp only [Act.put, List.setIfInBounds_toArray, List.set_cons_zero, List.set_cons_succ]
            have Zm4 := Lib.hid (((bas v3 (.cells #[.slice none 0 0, .slice none 0 0, .int .i64 0] 25)).block _ (block_lt Zm3.out)).trans Zm3.out)
            have Zh4 := Lib.hid (show (v3.alloc (.cells #[.slice none 0 0, .slice none 0 0, .int .i64 0] 25)).heap[v3.heap.size]? = some (.cells #[.slice none 0 0, .slice none 0 0, .int .i64 0] 25 (0, 0)) from alloc_at rfl)
            have Nh : Hid (X.heap.size ≤ v3.heap.size) := Lib.hid HW3.out.size
            have Nd : Hid (gm ≠ v3.heap.size) := Lib.hid (Nat.ne_of_lt (block_lt Zm3.out))
            generalize v3.alloc (.cells #[.slice none 0 0, .slice none 0 0, .int .i64 0] 25) = v4 at *
            generalize v3.heap.size = gh at *
            have Nd2 : Hid (gm ≠ gh) := Lib.hid Nd.out
            refine held_one (i := 6) (o := ?oi6u87) (by kernel_rfl) ?hi6u87 (fun K hK => ?rest6u87)
            case hi6u87 => (simp only [List.getElem?_toArray, List.getElem?_cons_succ, List.getElem?_cons_zero]; exact rfl)
            obtain ⟨z0, z1, z2, zl, zf0, zf1, zf2⟩ := cells3 Zm4.out
            obtain ⟨F, hF, hm, hk⟩ := store_mark (n := l.length) (m := tr.length) Zm4.out
            have ZM5 := Lib.hid hm
            have Zh5 := Lib.hid ((hk.old gh (block_lt Zh4.out) (fun e => Nd2.out e.symm)).trans Zh4.out)
            have HW5 := Lib.hid (HW4.out.trans (hk.bel.mono Nm.out))
            go_simp
            rw [← hF]
            refine hK _ _ (HS.out _ HW5.out) ?_
            clear hK K hHeld
            have hHeld := HS.out _ HW5.out
            try simp only [Act.put, List.setIfInBounds_toArray, List.set_cons_zero, List.set_cons_succ]
            clear hF hk hm z0 z1 z2 zl zf0 zf1 zf2
            refine held_one (i := 7) (o := ?oi7u88) (by kernel_rfl) ?hi7u88 (fun K hK => ?rest7u88)
            case hi7u88 => (simp only [List.getElem?_toArray, List.getElem?_cons_succ, List.getElem?_cons_zero]; exact rfl)
            obtain ⟨z0, z1, z2, zl, zf0, zf1, zf2⟩ := cells3 Zh5.out
            obtain ⟨F, hF, hm, hk⟩ := store_heap (A := A1) (n := l.length) (c := c1) (B := B1) (m := tr.length) (d := d1) (r := r) Zh5.out
            have ZG6 := Lib.hid hm
            have ZM6 := Lib.hid (ZM5.out.kq hk Nd2.out)
            have HW6 := Lib.hid (HW5.out.trans (hk.bel.mono Nh.out))
            go_simp
            rw [← hF]
            refine hK _ _ (HS.out _ HW6.out) ?_
            clear hK K hHeld
            have hHeld := HS.out _ HW6.out
            try simp only [Act.put, List.setIfInBounds_toArray, List.set_cons_zero, List.set_cons_succ]
            clear hF hk hm z0 z1 z2 zl zf0 zf1 zf2
            refine wpAnyH_take (i := 8) (oi := ?oi8u89) (v := ?v8u89) ?hi8u89 (by kernel_rfl) (by kernel_rfl) (by kernel_rfl) ?hQ8u89 (Or.inl ⟨?hw8u89, ?hy8u89⟩) hHeld ?rest8u89
            case hi8u89 => (simp only [List.getElem?_toArray, List.getElem?_cons_succ, List.getElem?_cons_zero]; exact rfl)
            case hQ8u89 => exact fun _ _ _ h => h
            case hw8u89 => rfl
            case hy8u89 => (intro w hSw; (try dsimp only at hSw); go_simp <;> with_reducible rfl)
            try simp only [Act.put, List.setIfInBounds_toArray, List.set_cons_zero, List.set_cons_succ]
            refine wpAnyH_done (by kernel_rfl) ?_ _
            clear hHeld
            go_wp2_with fail
            go_meet
            exact ⟨gm, gh, _, rfl, rfl, rfl, ZM6.out, ⟨A1, c1, B1, d1, ZG6.out, HC1.out.below HW6.out, HN1.out.below HW6.out⟩, Nh.out, Nd2.out, HW6.out⟩
          · have HW3 := Lib.hid (HW2.out.alloc HW2.out.size (.cells #[.slice none 0 0, .slice none 0 0, .int .i64 0] 25))
            go_simp
            refine hK _ _ (HS.out _ HW3.out) ?_
            clear hK K hHeld
            have hHeld := HS.out _ HW3.out
            try simp only [Act.put, List.setIfInBounds_toArray, List.set_cons_zero, List.set_cons_succ]
            have Zm3 := Lib.hid (((bas v2 (.cells #[.slice none 0 0, .slice none 0 0, .int .i64 0] 25)).block _ (block_lt Zm2.out)).trans Zm2.out)
            have Zh3 := Lib.hid (show (v2.alloc (.cells #[.slice none 0 0, .slice none 0 0, .int .i64 0] 25)).heap[v2.heap.size]? = some (.cells #[.slice none 0 0, .slice none 0 0, .int .i64 0] 25 (0, 0)) from alloc_at rfl)
            have Nh : Hid (X.heap.size ≤ v2.heap.size) := Lib.hid HW2.out.size
            have Nd : Hid (gm ≠ v2.heap.size) := Lib.hid (Nat.ne_of_lt (block_lt Zm2.out))
            generalize v2.alloc (.cells #[.slice none 0 0, .slice none 0 0, .int .i64 0] 25) = v3 at *
            generalize v2.heap.size = gh at *
            have Nd2 : Hid (gm ≠ gh) := Lib.hid Nd.out
            refine held_one (i := 1) (o := ?oi1u90) (by kernel_rfl) ?hi1u90 (fun K hK => ?rest1u90)
            case hi1u90 => (simp only [List.getElem?_toArray, List.getElem?_cons_succ, List.getElem?_cons_zero]; exact rfl)
            go_simp
            go_at_call 25
            refine (mark8 (n := 0) (e := 0) (D := none) Hok.out).mono ?_
            rintro e v4 ⟨rfl, hbq⟩
            have HW4 := Lib.hid (HW3.out.trans (hbq.mono HW3.out.size))
            have Zm4 := Lib.hid ((hbq.block _ (block_lt Zm3.out)).trans Zm3.out)
            have Zh4 := Lib.hid ((hbq.block _ (block_lt Zh3.out)).trans Zh3.out)
            clear hbq
            try go_simp
            refine hK _ _ (HS.out _ HW4.out) ?_
            clear hK K hHeld
            have hHeld := HS.out _ HW4.out
            try simp only [Act.put, List.setIfInBounds_toArray, List.set_cons_zero, List.set_cons_succ]
            refine held_one (i := 6) (o := ?oi6u91) (by kernel_rfl) ?hi6u91 (fun K hK => ?rest6u91)
            case hi6u91 => (simp only [List.getElem?_toArray, List.getElem?_cons_succ, List.getElem?_cons_zero]; exact rfl)
            obtain ⟨z0, z1, z2, zl, zf0, zf1, zf2⟩ := cells3 Zm4.out
            obtain ⟨F, hF, hm, hk⟩ := store_mark (n := l.length) (m := tr.length) Zm4.out
            have ZM5 := Lib.hid hm
            have Zh5 := Lib.hid ((hk.old gh (block_lt Zh4.out) (fun e => Nd2.out e.symm)).trans Zh4.out)
            have HW5 := Lib.hid (HW4.out.trans (hk.bel.mono Nm.out))
            go_simp
            rw [← hF]
            refine hK _ _ (HS.out _ HW5.out) ?_
            clear hK K hHeld
            have hHeld := HS.out _ HW5.out
            try simp only [Act.put, List.setIfInBounds_toArray, List.set_cons_zero, List.set_cons_succ]
            clear hF hk hm z0 z1 z2 zl zf0 zf1 zf2
            refine held_one (i := 7) (o := ?oi7u92) (by kernel_rfl) ?hi7u92 (fun K hK => ?rest7u92)
            case hi7u92 => (simp only [List.getElem?_toArray, List.getElem?_cons_succ, List.getElem?_cons_zero]; exact rfl)
            obtain ⟨z0, z1, z2, zl, zf0, zf1, zf2⟩ := cells3 Zh5.out
            obtain ⟨F, hF, hm, hk⟩ := store_heap (A := A1) (n := l.length) (c := c1) (B := B1) (m := tr.length) (d := d1) (r := r) Zh5.out
            have ZG6 := Lib.hid hm
            have ZM6 := Lib.hid (ZM5.out.kq hk Nd2.out)
            have HW6 := Lib.hid (HW5.out.trans (hk.bel.mono Nh.out))
            go_simp
            rw [← hF]
            refine hK _ _ (HS.out _ HW6.out) ?_
            clear hK K hHeld
            have hHeld := HS.out _ HW6.out
            try simp only [Act.put, List.setIfInBounds_toArray, List.set_cons_zero, List.set_cons_succ]
            clear hF hk hm z0 z1 z2 zl zf0 zf1 zf2
            refine wpAnyH_take (i := 8) (oi := ?oi8u93) (v := ?v8u93) ?hi8u93 (by kernel_rfl) (by kernel_rfl) (by kernel_rfl) ?hQ8u93 (Or.inl ⟨?hw8u93, ?hy8u93⟩) hHeld ?rest8u93
            case hi8u93 => (simp only [List.getElem?_toArray, List.getElem?_cons_succ, List.getElem?_cons_zero]; exact rfl)
            case hQ8u93 => exact fun _ _ _ h => h
            case hw8u93 => rfl
            case hy8u93 => (intro w hSw; (try dsimp only at hSw); go_simp <;> with_reducible rfl)
            try simp only [Act.put, List.setIfInBounds_toArray, List.set_cons_zero, List.set_cons_succ]
            refine wpAnyH_done (by kernel_rfl) ?_ _
            clear hHeld
            go_wp2_with fail
            go_meet
            exact ⟨gm, gh, _, rfl, rfl, rfl, ZM6.out, ⟨A1, c1, B1, d1, ZG6.out, HC1.out.below HW6.out, HN1.out.below HW6.out⟩, Nh.out, Nd2.out, HW6.out⟩
        · have HW2 := Lib.hid (HW1.out.alloc HW1.out.size (.cells #[.slice none 0 0, .slice none 0 0, .int .i64 0] 25))
          go_simp
          refine hK _ _ (HS.out _ HW2.out) ?_
          clear hK K hHeld
          have hHeld := HS.out _ HW2.out
          try simp only [Act.put, List.setIfInBounds_toArray, List.set_cons_zero, List.set_cons_succ]
          have Zm2 := Lib.hid (((bas v1 (.cells #[.slice none 0 0, .slice none 0 0, .int .i64 0] 25)).block _ (block_lt Zm1.out)).trans Zm1.out)
          have Zh2 := Lib.hid (show (v1.alloc (.cells #[.slice none 0 0, .slice none 0 0, .int .i64 0] 25)).heap[v1.heap.size]? = some (.cells #[.slice none 0 0, .slice none 0 0, .int .i64 0] 25 (0, 0)) from alloc_at rfl)
          have Nh : Hid (X.heap.size ≤ v1.heap.size) := Lib.hid HW1.out.size
          have Nd : Hid (gm ≠ v1.heap.size) := Lib.hid (Nat.ne_of_lt (block_lt Zm1.out))
          generalize v1.alloc (.cells #[.slice none 0 0, .slice none 0 0, .int .i64 0] 25) = v2 at *
          generalize v1.heap.size = gh at *
          have Nd2 : Hid (gm ≠ gh) := Lib.hid Nd.out
          refine held_two (i := 1) (j := 3) (oi := ?oi1u94) (oj := ?oi3u94) (by kernel_rfl) ?hi1u94 ?hi3u94 (fun K hK => ?rest1u94) (fun K hK => ?rest3u94)
          case hi1u94 => (simp only [List.getElem?_toArray, List.getElem?_cons_succ, List.getElem?_cons_zero]; exact rfl)
          case hi3u94 => (simp only [List.getElem?_toArray, List.getElem?_cons_succ, List.getElem?_cons_zero]; exact rfl)
          · go_simp
            go_at_call 25
            refine (mark8 (n := 0) (e := 0) (D := none) Hok.out).mono ?_
            rintro e v3 ⟨rfl, hbq⟩
            have HW3 := Lib.hid (HW2.out.trans (hbq.mono HW2.out.size))
            have Zm3 := Lib.hid ((hbq.block _ (block_lt Zm2.out)).trans Zm2.out)
            have Zh3 := Lib.hid ((hbq.block _ (block_lt Zh2.out)).trans Zh2.out)
            clear hbq
            try go_simp
            refine hK _ _ (HS.out _ HW3.out) ?_
            clear hK K hHeld
            have hHeld := HS.out _ HW3.out
            try simp only [Act.put, List.setIfInBounds_toArray, List.set_cons_zero, List.set_cons_succ]
            refine held_two (i := 3) (j := 6) (oi := ?oi3u95) (oj := ?oi6u95) (by kernel_rfl) ?hi3u95 ?hi6u95 (fun K hK => ?rest3u95) (fun K hK => ?rest6u95)
            case hi3u95 => (simp only [List.getElem?_toArray, List.getElem?_cons_succ, List.getElem?_cons_zero]; exact rfl)
            case hi6u95 => (simp only [List.getElem?_toArray, List.getElem?_cons_succ, List.getElem?_cons_zero]; exact rfl)
            · have HW4 := Lib.hid (HW3.out.alloc HW3.out.size (.cells #[] 3))
              go_simp
              refine hK _ _ (HS.out _ HW4.out) ?_
              clear hK K hHeld
              have hHeld := HS.out _ HW4.out
              try simp only [Act.put, List.setIfInBounds_toArray, List.set_cons_zero, List.set_cons_succ]
              have Zm4 := Lib.hid (((bas v3 (.cells #[] 3)).block _ (block_lt Zm3.out)).trans Zm3.out)
              have Zh4 := Lib.hid (((bas v3 (.cells #[] 3)).block _ (block_lt Zh3.out)).trans Zh3.out)
              generalize v3.alloc (.cells #[] 3) = v4 at *
              generalize v3.heap.size = gz at *
              refine held_one (i := 6) (o := ?oi6u96) (by kernel_rfl) ?hi6u96 (fun K hK => ?rest6u96)
              case hi6u96 => (simp only [List.getElem?_toArray, List.getElem?_cons_succ, List.getElem?_cons_zero]; exact rfl)
              obtain ⟨z0, z1, z2, zl, zf0, zf1, zf2⟩ := cells3 Zm4.out
              obtain ⟨F, hF, hm, hk⟩ := store_mark (n := l.length) (m := tr.length) Zm4.out
              have ZM5 := Lib.hid hm
              have Zh5 := Lib.hid ((hk.old gh (block_lt Zh4.out) (fun e => Nd2.out e.symm)).trans Zh4.out)
              have HW5 := Lib.hid (HW4.out.trans (hk.bel.mono Nm.out))
              go_simp
              rw [← hF]
              refine hK _ _ (HS.out _ HW5.out) ?_
              clear hK K hHeld
              have hHeld := HS.out _ HW5.out
              try simp only [Act.put, List.setIfInBounds_toArray, List.set_cons_zero, List.set_cons_succ]
              clear hF hk hm z0 z1 z2 zl zf0 zf1 zf2
              refine held_one (i := 7) (o := ?oi7u97) (by kernel_rfl) ?hi7u97 (fun K hK => ?rest7u97)
              case hi7u97 => (simp only [List.getElem?_toArray, List.getElem?_cons_succ, List.getElem?_cons_zero]; exact rfl)
              obtain ⟨z0, z1, z2, zl, zf0, zf1, zf2⟩ := cells3 Zh5.out
              obtain ⟨F, hF, hm, hk⟩ := store_heap (A := A1) (n := l.length) (c := c1) (B := B1) (m := tr.length) (d := d1) (r := r) Zh5.out
              have ZG6 := Lib.hid hm
              have ZM6 := Lib.hid (ZM5.out.kq hk Nd2.out)
              have HW6 := Lib.hid (HW5.out.trans (hk.bel.mono Nh.out))
              go_simp
              rw [← hF]
              refine hK _ _ (HS.out _ HW6.out) ?_
              clear hK K hHeld
              have hHeld := HS.out _ HW6.out
              try simp only [Act.put, List.setIfInBounds_toArray, List.set_cons_zero, List.set_cons_succ]
              clear hF hk hm z0 z1 z2 zl zf0 zf1 zf2
              refine wpAnyH_take (i := 8) (oi := ?oi8u98) (v := ?v8u98) ?hi8u98 (by kernel_rfl) (by kernel_rfl) (by kernel_rfl) ?hQ8u98 (Or.inl ⟨?hw8u98, ?hy8u98⟩) hHeld ?rest8u98
              case hi8u98 => (simp only [List.getElem?_toArray, List.getElem?_cons_succ, List.getElem?_cons_zero]; exact rfl)
              case hQ8u98 => exact fun _ _ _ h => h
              case hw8u98 => rfl
              case hy8u98 => (intro w hSw; (try dsimp only at hSw); go_simp <;> with_reducible rfl)
              try simp only [Act.put, List.setIfInBounds_toArray, List.set_cons_zero, List.set_cons_succ]
              refine wpAnyH_done (by kernel_rfl) ?_ _
              clear hHeld
              go_wp2_with fail
              go_meet
              exact ⟨gm, gh, _, rfl, rfl, rfl, ZM6.out, ⟨A1, c1, B1, d1, ZG6.out, HC1.out.below HW6.out, HN1.out.below HW6.out⟩, Nh.out, Nd2.out, HW6.out⟩
            · obtain ⟨z0, z1, z2, zl, zf0, zf1, zf2⟩ := cells3 Zm3.out
              obtain ⟨F, hF, hm, hk⟩ := store_mark (n := l.length) (m := tr.length) Zm3.out
              have ZM4 := Lib.hid hm
              have Zh4 := Lib.hid ((hk.old gh (block_lt Zh3.out) (fun e => Nd2.out e.symm)).trans Zh3.out)
              have HW4 := Lib.hid (HW3.out.trans (hk.bel.mono Nm.out))
              go_simp
              rw [← hF]
              refine hK _ _ (HS.out _ HW4.out) ?_
              clear hK K hHeld
              have hHeld := HS.out _ HW4.out
              try simp only [Act.put, List.setIfInBounds_toArray, List.set_cons_zero, List.set_cons_succ]
              clear hF hk hm z0 z1 z2 zl zf0 zf1 zf2
              refine held_two (i := 3) (j := 7) (oi := ?oi3u99) (oj := ?oi7u99) (by kernel_rfl) ?hi3u99 ?hi7u99 (fun K hK => ?rest3u99) (fun K hK => ?rest7u99)
              case hi3u99 => (simp only [List.getElem?_toArray, List.getElem?_cons_succ, List.getElem?_cons_zero]; exact rfl)
              case hi7u99 => (simp only [List.getElem?_toArray, List.getElem?_cons_succ, List.getElem?_cons_zero]; exact rfl)
              · have HW5 := Lib.hid (HW4.out.alloc HW4.out.size (.cells #[] 3))
                go_simp
                refine hK _ _ (HS.out _ HW5.out) ?_
                clear hK K hHeld
                have hHeld := HS.out _ HW5.out
                try simp only [Act.put, List.setIfInBounds_toArray, List.set_cons_zero, List.set_cons_succ]
                have ZM5 := Lib.hid (ZM4.out.below (bas F (.cells #[] 3)))
                have Zh5 := Lib.hid (((bas F (.cells #[] 3)).block _ (block_lt Zh4.out)).trans Zh4.out)
                generalize F.alloc (.cells #[] 3) = v5 at *
                generalize F.heap.size = gz at *
                refine held_one (i := 7) (o := ?oi7u100) (by kernel_rfl) ?hi7u100 (fun K hK => ?rest7u100)
                case hi7u100 => (simp only [List.getElem?_toArray, List.getElem?_cons_succ, List.getElem?_cons_zero]; exact rfl)
                obtain ⟨z0, z1, z2, zl, zf0, zf1, zf2⟩ := cells3 Zh5.out
                obtain ⟨F, hF, hm, hk⟩ := store_heap (A := A1) (n := l.length) (c := c1) (B := B1) (m := tr.length) (d := d1) (r := r) Zh5.out
                have ZG6 := Lib.hid hm
                have ZM6 := Lib.hid (ZM5.out.kq hk Nd2.out)
                have HW6 := Lib.hid (HW5.out.trans (hk.bel.mono Nh.out))
                go_simp
                rw [← hF]
                refine hK _ _ (HS.out _ HW6.out) ?_
                clear hK K hHeld
                have hHeld := HS.out _ HW6.out
                try simp only [Act.put, List.setIfInBounds_toArray, List.set_cons_zero, List.set_cons_succ]
                clear hF hk hm z0 z1 z2 zl zf0 zf1 zf2
                refine wpAnyH_take (i := 8) (oi := ?oi8u101) (v := ?v8u101) ?hi8u101 (by kernel_rfl) (by kernel_rfl) (by kernel_rfl) ?hQ8u101 (Or.inl ⟨?hw8u101, ?hy8u101⟩) hHeld ?rest8u101
                case hi8u101 => (simp only [List.getElem?_toArray, List.getElem?_cons_succ, List.getElem?_cons_zero]; exact rfl)
                case hQ8u101 => exact fun _ _ _ h => h
                case hw8u101 => rfl
                case hy8u101 => (intro w hSw; (try dsimp only at hSw); go_simp <;> with_reducible rfl)
                try simp only [Act.put, List.setIfInBounds_toArray, List.set_cons_zero, List.set_cons_succ]
                refine wpAnyH_done (by kernel_rfl) ?_ _
                clear hHeld
                go_wp2_with fail
                go_meet
                exact ⟨gm, gh, _, rfl, rfl, rfl, ZM6.out, ⟨A1, c1, B1, d1, ZG6.out, HC1.out.below HW6.out, HN1.out.below HW6.out⟩, Nh.out, Nd2.out, HW6.out⟩
              · obtain ⟨z0, z1, z2, zl, zf0, zf1, zf2⟩ := cells3 Zh4.out
                obtain ⟨F, hF, hm, hk⟩ := store_heap (A := A1) (n := l.length) (c := c1) (B := B1) (m := tr.length) (d := d1) (r := r) Zh4.out
                have ZG5 := Lib.hid hm
                have ZM5 := Lib.hid (ZM4.out.kq hk Nd2.out)
                have HW5 := Lib.hid (HW4.out.trans (hk.bel.mono Nh.out))
                go_simp
                rw [← hF]
                refine hK _ _ (HS.out _ HW5.out) ?_
                clear hK K hHeld
                have hHeld := HS.out _ HW5.out
                try simp only [Act.put, List.setIfInBounds_toArray, List.set_cons_zero, List.set_cons_succ]
                clear hF hk hm z0 z1 z2 zl zf0 zf1 zf2
                refine held_one (i := 3) (o := ?oi3u102) (by kernel_rfl) ?hi3u102 (fun K hK => ?rest3u102)
                case hi3u102 => (simp only [List.getElem?_toArray, List.getElem?_cons_succ, List.getElem?_cons_zero]; exact rfl)
                have HW6 := Lib.hid (HW5.out.alloc HW5.out.size (.cells #[] 3))
                go_simp
                refine hK _ _ (HS.out _ HW6.out) ?_
                clear hK K hHeld
                have hHeld := HS.out _ HW6.out
                try simp only [Act.put, List.setIfInBounds_toArray, List.set_cons_zero, List.set_cons_succ]
                have ZM6 := Lib.hid (ZM5.out.below (bas F (.cells #[] 3)))
                have ZG6 := Lib.hid (((bas F (.cells #[] 3)).block _ (block_lt ZG5.out)).trans ZG5.out)
                generalize F.alloc (.cells #[] 3) = v6 at *
                generalize F.heap.size = gz at *
                refine wpAnyH_take (i := 8) (oi := ?oi8u103) (v := ?v8u103) ?hi8u103 (by kernel_rfl) (by kernel_rfl) (by kernel_rfl) ?hQ8u103 (Or.inl ⟨?hw8u103, ?hy8u103⟩) hHeld ?rest8u103
                case hi8u103 => (simp only [List.getElem?_toArray, List.getElem?_cons_succ, List.getElem?_cons_zero]; exact rfl)
                case hQ8u103 => exact fun _ _ _ h => h
                case hw8u103 => rfl
                case hy8u103 => (intro w hSw; (try dsimp only at hSw); go_simp <;> with_reducible rfl)
                try simp only [Act.put, List.setIfInBounds_toArray, List.set_cons_zero, List.set_cons_succ]
                refine wpAnyH_done (by kernel_rfl) ?_ _
                clear hHeld
                go_wp2_with fail
                go_meet
                exact ⟨gm, gh, _, rfl, rfl, rfl, ZM6.out, ⟨A1, c1, B1, d1, ZG6.out, HC1.out.below HW6.out, HN1.out.below HW6.out⟩, Nh.out, Nd2.out, HW6.out⟩
          · have HW3 := Lib.hid (HW2.out.alloc HW2.out.size (.cells #[] 3))
            go_simp
            refine hK _ _ (HS.out _ HW3.out) ?_
            clear hK K hHeld
            have hHeld := HS.out _ HW3.out
            try simp only [Act.put, List.setIfInBounds_toArray, List.set_cons_zero, List.set_cons_succ]
            have Zm3 := Lib.hid (((bas v2 (.cells #[] 3)).block _ (block_lt Zm2.out)).trans Zm2.out)
            have Zh3 := Lib.hid (((bas v2 (.cells #[] 3)).block _ (block_lt Zh2.out)).trans Zh2.out)
            generalize v2.alloc (.cells #[] 3) = v3 at *
            generalize v2.heap.size = gz at *
            refine held_one (i := 1) (o := ?oi1u104) (by kernel_rfl) ?hi1u104 (fun K hK => ?rest1u104)
            case hi1u104 => (simp only [List.getElem?_toArray, List.getElem?_cons_succ, List.getElem?_cons_zero]; exact rfl)
            go_simp
            go_at_call 25
            refine (mark8 (n := 0) (e := 0) (D := none) Hok.out).mono ?_
            rintro e v4 ⟨rfl, hbq⟩
            have HW4 := Lib.hid (HW3.out.trans (hbq.mono HW3.out.size))
            have Zm4 := Lib.hid ((hbq.block _ (block_lt Zm3.out)).trans Zm3.out)
            have Zh4 := Lib.hid ((hbq.block _ (block_lt Zh3.out)).trans Zh3.out)
            clear hbq
            try go_simp
            refine hK _ _ (HS.out _ HW4.out) ?_
            clear hK K hHeld
            have hHeld := HS.out _ HW4.out
            try simp only [Act.put, List.setIfInBounds_toArray, List.set_cons_zero, List.set_cons_succ]
            refine held_one (i := 6) (o := ?oi6u105) (by kernel_rfl) ?hi6u105 (fun K hK => ?rest6u105)
            case hi6u105 => (simp only [List.getElem?_toArray, List.getElem?_cons_succ, List.getElem?_cons_zero]; exact rfl)
            obtain ⟨z0, z1, z2, zl, zf0, zf1, zf2⟩ := cells3 Zm4.out
            obtain ⟨F, hF, hm, hk⟩ := store_mark (n := l.length) (m := tr.length) Zm4.out
            have ZM5 := Lib.hid hm
            have Zh5 := Lib.hid ((hk.old gh (block_lt Zh4.out) (fun e => Nd2.out e.symm)).trans Zh4.out)
            have HW5 := Lib.hid (HW4.out.trans (hk.bel.mono Nm.out))
            go_simp
            rw [← hF]
            refine hK _ _ (HS.out _ HW5.out) ?_
            clear hK K hHeld
            have hHeld := HS.out _ HW5.out
            try simp only [Act.put, List.setIfInBounds_toArray, List.set_cons_zero, List.set_cons_succ]
            clear hF hk hm z0 z1 z2 zl zf0 zf1 zf2
            refine held_one (i := 7) (o := ?oi7u106) (by kernel_rfl) ?hi7u106 (fun K hK => ?rest7u106)
            case hi7u106 => (simp only [List.getElem?_toArray, List.getElem?_cons_succ, List.getElem?_cons_zero]; exact rfl)
            obtain ⟨z0, z1, z2, zl, zf0, zf1, zf2⟩ := cells3 Zh5.out
            obtain ⟨F, hF, hm, hk⟩ := store_heap (A := A1) (n := l.length) (c := c1) (B := B1) (m := tr.length) (d := d1) (r := r) Zh5.out
            have ZG6 := Lib.hid hm
            have ZM6 := Lib.hid (ZM5.out.kq hk Nd2.out)
            have HW6 := Lib.hid (HW5.out.trans (hk.bel.mono Nh.out))
            go_simp
            rw [← hF]
            refine hK _ _ (HS.out _ HW6.out) ?_
            clear hK K hHeld
            have hHeld := HS.out _ HW6.out
            try simp only [Act.put, List.setIfInBounds_toArray, List.set_cons_zero, List.set_cons_succ]
            clear hF hk hm z0 z1 z2 zl zf0 zf1 zf2
            refine wpAnyH_take (i := 8) (oi := ?oi8u107) (v := ?v8u107) ?hi8u107 (by kernel_rfl) (by kernel_rfl) (by kernel_rfl) ?hQ8u107 (Or.inl ⟨?hw8u107, ?hy8u107⟩) hHeld ?rest8u107
            case hi8u107 => (simp only [List.getElem?_toArray, List.getElem?_cons_succ, List.getElem?_cons_zero]; exact rfl)
            case hQ8u107 => exact fun _ _ _ h => h
            case hw8u107 => rfl
            case hy8u107 => (intro w hSw; (try dsimp only at hSw); go_simp <;> with_reducible rfl)
            try simp only [Act.put, List.setIfInBounds_toArray, List.set_cons_zero, List.set_cons_succ]
            refine wpAnyH_done (by kernel_rfl) ?_ _
            clear hHeld
            go_wp2_with fail
            go_meet
            exact ⟨gm, gh, _, rfl, rfl, rfl, ZM6.out, ⟨A1, c1, B1, d1, ZG6.out, HC1.out.below HW6.out, HN1.out.below HW6.out⟩, Nh.out, Nd2.out, HW6.out⟩
      · have HW1 := Lib.hid (HV.out.alloc HV.out.size (.cells #[.slice none 0 0, .slice none 0 0, .int .i64 0] 25))
        go_simp
        refine hK _ _ (HS.out _ HW1.out) ?_
        clear hK K hHeld
        have hHeld := HS.out _ HW1.out
        try simp only [Act.put, List.setIfInBounds_toArray, List.set_cons_zero, List.set_cons_succ]
        have Zh1 := Lib.hid (show (V.alloc (.cells #[.slice none 0 0, .slice none 0 0, .int .i64 0] 25)).heap[V.heap.size]? = some (.cells #[.slice none 0 0, .slice none 0 0, .int .i64 0] 25 (0, 0)) from alloc_at rfl)
        have Nh : Hid (X.heap.size ≤ V.heap.size) := Lib.hid HV.out.size
        generalize V.alloc (.cells #[.slice none 0 0, .slice none 0 0, .int .i64 0] 25) = v1 at *
        generalize V.heap.size = gh at *
        refine held_three (i := 1) (j := 3) (k := 4) (oi := ?oi1u108) (oj := ?oi3u108) (ok := ?oi4u108) (by kernel_rfl) ?hi1u108 ?hi3u108 ?hi4u108 (fun K hK => ?rest1u108) (fun K hK => ?rest3u108) (fun K hK => ?rest4u108)
        case hi1u108 => (simp only [List.getElem?_toArray, List.getElem?_cons_succ, List.getElem?_cons_zero]; exact rfl)
        case hi3u108 => (simp only [List.getElem?_toArray, List.getElem?_cons_succ, List.getElem?_cons_zero]; exact rfl)
        case hi4u108 => (simp only [List.getElem?_toArray, List.getElem?_cons_succ, List.getElem?_cons_zero]; exact rfl)
        · go_simp
          go_at_call 25
          refine (mark8 (n := 0) (e := 0) (D := none) Hok.out).mono ?_
          rintro e v2 ⟨rfl, hbq⟩
          have HW2 := Lib.hid (HW1.out.trans (hbq.mono HW1.out.size))
          have Zh2 := Lib.hid ((hbq.block _ (block_lt Zh1.out)).trans Zh1.out)
          clear hbq
          try go_simp
          refine hK _ _ (HS.out _ HW2.out) ?_
          clear hK K hHeld
          have hHeld := HS.out _ HW2.out
          try simp only [Act.put, List.setIfInBounds_toArray, List.set_cons_zero, List.set_cons_succ]
          refine held_two (i := 3) (j := 4) (oi := ?oi3u109) (oj := ?oi4u109) (by kernel_rfl) ?hi3u109 ?hi4u109 (fun K hK => ?rest3u109) (fun K hK => ?rest4u109)
          case hi3u109 => (simp only [List.getElem?_toArray, List.getElem?_cons_succ, List.getElem?_cons_zero]; exact rfl)
          case hi4u109 => (simp only [List.getElem?_toArray, List.getElem?_cons_succ, List.getElem?_cons_zero]; exact rfl)
          · have HW3 := Lib.hid (HW2.out.alloc HW2.out.size (.cells #[] 3))
            go_simp
            refine hK _ _ (HS.out _ HW3.out) ?_
            clear hK K hHeld
            have hHeld := HS.out _ HW3.out
            try simp only [Act.put, List.setIfInBounds_toArray, List.set_cons_zero, List.set_cons_succ]
            have Zh3 := Lib.hid (((bas v2 (.cells #[] 3)).block _ (block_lt Zh2.out)).trans Zh2.out)
            generalize v2.alloc (.cells #[] 3) = v3 at *
            generalize v2.heap.size = gz at *
            refine held_one (i := 4) (o := ?oi4u110) (by kernel_rfl) ?hi4u110 (fun K hK => ?rest4u110)
            case hi4u110 => (simp only [List.getElem?_toArray, List.getElem?_cons_succ, List.getElem?_cons_zero]; exact rfl)
            have HW4 := Lib.hid (HW3.out.alloc HW3.out.size (.cells #[.int .i64 0, .int .i64 0, .slice none 0 0] 43))
            go_simp
            refine hK _ _ (HS.out _ HW4.out) ?_
            clear hK K hHeld
            have hHeld := HS.out _ HW4.out
            try simp only [Act.put, List.setIfInBounds_toArray, List.set_cons_zero, List.set_cons_succ]
            have Zh4 := Lib.hid (((bas v3 (.cells #[.int .i64 0, .int .i64 0, .slice none 0 0] 43)).block _ (block_lt Zh3.out)).trans Zh3.out)
            have Zm4 := Lib.hid (show (v3.alloc (.cells #[.int .i64 0, .int .i64 0, .slice none 0 0] 43)).heap[v3.heap.size]? = some (.cells #[.int .i64 0, .int .i64 0, .slice none 0 0] 43 (0, 0)) from alloc_at rfl)
            have Nm : Hid (X.heap.size ≤ v3.heap.size) := Lib.hid HW3.out.size
            have Nd : Hid (gh ≠ v3.heap.size) := Lib.hid (Nat.ne_of_lt (block_lt Zh3.out))
            generalize v3.alloc (.cells #[.int .i64 0, .int .i64 0, .slice none 0 0] 43) = v4 at *
            generalize v3.heap.size = gm at *
            have Nd2 : Hid (gm ≠ gh) := Lib.hid (fun e => Nd.out e.symm)
            refine held_one (i := 6) (o := ?oi6u111) (by kernel_rfl) ?hi6u111 (fun K hK => ?rest6u111)
            case hi6u111 => (simp only [List.getElem?_toArray, List.getElem?_cons_succ, List.getElem?_cons_zero]; exact rfl)
            obtain ⟨z0, z1, z2, zl, zf0, zf1, zf2⟩ := cells3 Zm4.out
            obtain ⟨F, hF, hm, hk⟩ := store_mark (n := l.length) (m := tr.length) Zm4.out
            have ZM5 := Lib.hid hm
            have Zh5 := Lib.hid ((hk.old gh (block_lt Zh4.out) (fun e => Nd2.out e.symm)).trans Zh4.out)
            have HW5 := Lib.hid (HW4.out.trans (hk.bel.mono Nm.out))
            go_simp
            rw [← hF]
            refine hK _ _ (HS.out _ HW5.out) ?_
            clear hK K hHeld
            have hHeld := HS.out _ HW5.out
            try simp only [Act.put, List.setIfInBounds_toArray, List.set_cons_zero, List.set_cons_succ]
            clear hF hk hm z0 z1 z2 zl zf0 zf1 zf2
            refine held_one (i := 7) (o := ?oi7u112) (by kernel_rfl) ?hi7u112 (fun K hK => ?rest7u112)
            case hi7u112 => (simp only [List.getElem?_toArray, List.getElem?_cons_succ, List.getElem?_cons_zero]; exact rfl)
            obtain ⟨z0, z1, z2, zl, zf0, zf1, zf2⟩ := cells3 Zh5.out
            obtain ⟨F, hF, hm, hk⟩ := store_heap (A := A1) (n := l.length) (c := c1) (B := B1) (m := tr.length) (d := d1) (r := r) Zh5.out
            have ZG6 := Lib.hid hm
            have ZM6 := Lib.hid (ZM5.out.kq hk Nd2.out)
            have HW6 := Lib.hid (HW5.out.trans (hk.bel.mono Nh.out))
            go_simp
            rw [← hF]
            refine hK _ _ (HS.out _ HW6.out) ?_
            clear hK K hHeld
            have hHeld := HS.out _ HW6.out
            try simp only [Act.put, List.setIfInBounds_toArray, List.set_cons_zero, List.set_cons_succ]
            clear hF hk hm z0 z1 z2 zl zf0 zf1 zf2
            refine wpAnyH_take (i := 8) (oi := ?oi8u113) (v := ?v8u113) ?hi8u113 (by kernel_rfl) (by kernel_rfl) (by kernel_rfl) ?hQ8u113 (Or.inl ⟨?hw8u113, ?hy8u113⟩) hHeld ?rest8u113
            case hi8u113 => (simp only [List.getElem?_toArray, List.getElem?_cons_succ, List.getElem?_cons_zero]; exact rfl)
            case hQ8u113 => exact fun _ _ _ h => h
            case hw8u113 => rfl
            case hy8u113 => (intro w hSw; (try dsimp only at hSw); go_simp <;> with_reducible rfl)
            try simp only [Act.put, List.setIfInBounds_toArray, List.set_cons_zero, List.set_cons_succ]
            refine wpAnyH_done (by kernel_rfl) ?_ _
            clear hHeld
            go_wp2_with fail
            go_meet
            exact ⟨gm, gh, _, rfl, rfl, rfl, ZM6.out, ⟨A1, c1, B1, d1, ZG6.out, HC1.out.below HW6.out, HN1.out.below HW6.out⟩, Nh.out, Nd2.out, HW6.out⟩
          · have HW3 := Lib.hid (HW2.out.alloc HW2.out.size (.cells #[.int .i64 0, .int .i64 0, .slice none 0 0] 43))
            go_simp
            refine hK _ _ (HS.out _ HW3.out) ?_
            clear hK K hHeld
            have hHeld := HS.out _ HW3.out
            try simp only [Act.put, List.setIfInBounds_toArray, List.set_cons_zero, List.set_cons_succ]
            have Zh3 := Lib.hid (((bas v2 (.cells #[.int .i64 0, .int .i64 0, .slice none 0 0] 43)).block _ (block_lt Zh2.out)).trans Zh2.out)
            have Zm3 := Lib.hid (show (v2.alloc (.cells #[.int .i64 0, .int .i64 0, .slice none 0 0] 43)).heap[v2.heap.size]? = some (.cells #[.int .i64 0, .int .i64 0, .slice none 0 0] 43 (0, 0)) from alloc_at rfl)
            have Nm : Hid (X.heap.size ≤ v2.heap.size) := Lib.hid HW2.out.size
            have Nd : Hid (gh ≠ v2.heap.size) := Lib.hid (Nat.ne_of_lt (block_lt Zh2.out))
            generalize v2.alloc (.cells #[.int .i64 0, .int .i64 0, .slice none 0 0] 43) = v3 at *
            generalize v2.heap.size = gm at *
            have Nd2 : Hid (gm ≠ gh) := Lib.hid (fun e => Nd.out e.symm)
            refine held_two (i := 3) (j := 6) (oi := ?oi3u114) (oj := ?oi6u114) (by kernel_rfl) ?hi3u114 ?hi6u114 (fun K hK => ?rest3u114) (fun K hK => ?rest6u114)
            case hi3u114 => (simp only [List.getElem?_toArray, List.getElem?_cons_succ, List.getElem?_cons_zero]; exact rfl)
            case hi6u114 => (simp only [List.getElem?_toArray, List.getElem?_cons_succ, List.getElem?_cons_zero]; exact rfl)
            · have HW4 := Lib.hid (HW3.out.alloc HW3.out.size (.cells #[] 3))
              go_simp
              refine hK _ _ (HS.out _ HW4.out) ?_
              clear hK K hHeld
              have hHeld := HS.out _ HW4.out
              try simp only [Act.put, List.setIfInBounds_toArray, List.set_cons_zero, List.set_cons_succ]
              have Zh4 := Lib.hid (((bas v3 (.cells #[] 3)).block _ (block_lt Zh3.out)).trans Zh3.out)
              have Zm4 := Lib.hid (((bas v3 (.cells #[] 3)).block _ (block_lt Zm3.out)).trans Zm3.out)
              generalize v3.alloc (.cells #[] 3) = v4 at *
              generalize v3.heap.size = gz at *
              refine held_one (i := 6) (o := ?oi6u115) (by kernel_rfl) ?hi6u115 (fun K hK => ?rest6u115)
              case hi6u115 => (simp only [List.getElem?_toArray, List.getElem?_cons_succ, List.getElem?_cons_zero]; exact rfl)
              obtain ⟨z0, z1, z2, zl, zf0, zf1, zf2⟩ := cells3 Zm4.out
              obtain ⟨F, hF, hm, hk⟩ := store_mark (n := l.length) (m := tr.length) Zm4.out
              have ZM5 := Lib.hid hm
              have Zh5 := Lib.hid ((hk.old gh (block_lt Zh4.out) (fun e => Nd2.out e.symm)).trans Zh4.out)
              have HW5 := Lib.hid (HW4.out.trans (hk.bel.mono Nm.out))
              go_simp
              rw [← hF]
              refine hK _ _ (HS.out _ HW5.out) ?_
              clear hK K hHeld
              have hHeld := HS.out _ HW5.out
              try simp only [Act.put, List.setIfInBounds_toArray, List.set_cons_zero, List.set_cons_succ]
              clear hF hk hm z0 z1 z2 zl zf0 zf1 zf2
              refine held_one (i := 7) (o := ?oi7u116) (by kernel_rfl) ?hi7u116 (fun K hK => ?rest7u116)
              case hi7u116 => (simp only [List.getElem?_toArray, List.getElem?_cons_succ, List.getElem?_cons_zero]; exact rfl)
              obtain ⟨z0, z1, z2, zl, zf0, zf1, zf2⟩ := cells3 Zh5.out
              obtain ⟨F, hF, hm, hk⟩ := store_heap (A := A1) (n := l.length) (c := c1) (B := B1) (m := tr.length) (d := d1) (r := r) Zh5.out
              have ZG6 := Lib.hid hm
              have ZM6 := Lib.hid (ZM5.out.kq hk Nd2.out)
              have HW6 := Lib.hid (HW5.out.trans (hk.bel.mono Nh.out))
              go_simp
              rw [← hF]
              refine hK _ _ (HS.out _ HW6.out) ?_
              clear hK K hHeld
              have hHeld := HS.out _ HW6.out
              try simp only [Act.put, List.setIfInBounds_toArray, List.set_cons_zero, List.set_cons_succ]
              clear hF hk hm z0 z1 z2 zl zf0 zf1 zf2
              refine wpAnyH_take (i := 8) (oi := ?oi8u117) (v := ?v8u117) ?hi8u117 (by kernel_rfl) (by kernel_rfl) (by kernel_rfl) ?hQ8u117 (Or.inl ⟨?hw8u117, ?hy8u117⟩) hHeld ?rest8u117
              case hi8u117 => (simp only [List.getElem?_toArray, List.getElem?_cons_succ, List.getElem?_cons_zero]; exact rfl)
              case hQ8u117 => exact fun _ _ _ h => h
              case hw8u117 => rfl
              case hy8u117 => (intro w hSw; (try dsimp only at hSw); go_simp <;> with_reducible rfl)
              try simp only [Act.put, List.setIfInBounds_toArray, List.set_cons_zero, List.set_cons_succ]
              refine wpAnyH_done (by kernel_rfl) ?_ _
              clear hHeld
              go_wp2_with fail
              go_meet
              exact ⟨gm, gh, _, rfl, rfl, rfl, ZM6.out, ⟨A1, c1, B1, d1, ZG6.out, HC1.out.below HW6.out, HN1.out.below HW6.out⟩, Nh.out, Nd2.out, HW6.out⟩
            · obtain ⟨z0, z1, z2, zl, zf0, zf1, zf2⟩ := cells3 Zm3.out
              obtain ⟨F, hF, hm, hk⟩ := store_mark (n := l.length) (m := tr.length) Zm3.out
              have ZM4 := Lib.hid hm
              have Zh4 := Lib.hid ((hk.old gh (block_lt Zh3.out) (fun e => Nd2.out e.symm)).trans Zh3.out)
              have HW4 := Lib.hid (HW3.out.trans (hk.bel.mono Nm.out))
              go_simp
              rw [← hF]
              refine hK _ _ (HS.out _ HW4.out) ?_
              clear hK K hHeld
              have hHeld := HS.out _ HW4.out
              try simp only [Act.put, List.setIfInBounds_toArray, List.set_cons_zero, List.set_cons_succ]
              clear hF hk hm z0 z1 z2 zl zf0 zf1 zf2
              refine held_two (i := 3) (j := 7) (oi := ?oi3u118) (oj := ?oi7u118) (by kernel_rfl) ?hi3u118 ?hi7u118 (fun K hK => ?rest3u118) (fun K hK => ?rest7u118)
              case hi3u118 => (simp only [List.getElem?_toArray, List.getElem?_cons_succ, List.getElem?_cons_zero]; exact rfl)
              case hi7u118 => (simp only [List.getElem?_toArray, List.getElem?_cons_succ, List.getElem?_cons_zero]; exact rfl)
              · have HW5 := Lib.hid (HW4.out.alloc HW4.out.size (.cells #[] 3))
                go_simp
                refine hK _ _ (HS.out _ HW5.out) ?_
                clear hK K hHeld
                have hHeld := HS.out _ HW5.out
                try simp only [Act.put, List.setIfInBounds_toArray, List.set_cons_zero, List.set_cons_succ]
                have ZM5 := Lib.hid (ZM4.out.below (bas F (.cells #[] 3)))
                have Zh5 := Lib.hid (((bas F (.cells #[] 3)).block _ (block_lt Zh4.out)).trans Zh4.out)
                generalize F.alloc (.cells #[] 3) = v5 at *
                generalize F.heap.size = gz at *
                refine held_one (i := 7) (o := ?oi7u119) (by kernel_rfl) ?hi7u119 (fun K hK => ?rest7u119)
                case hi7u119 => (simp only [List.getElem?_toArray, List.getElem?_cons_succ, List.getElem?_cons_zero]; exact rfl)
                obtain ⟨z0, z1, z2, zl, zf0, zf1, zf2⟩ := cells3 Zh5.out
                obtain ⟨F, hF, hm, hk⟩ := store_heap (A := A1) (n := l.length) (c := c1) (B := B1) (m := tr.length) (d := d1) (r := r) Zh5.out
                have ZG6 := Lib.hid hm
                have ZM6 := Lib.hid (ZM5.out.kq hk Nd2.out)
                have HW6 := Lib.hid (HW5.out.trans (hk.bel.mono Nh.out))
                go_simp
                rw [← hF]
                refine hK _ _ (HS.out _ HW6.out) ?_
                clear hK K hHeld
                have hHeld := HS.out _ HW6.out
                try simp only [Act.put, List.setIfInBounds_toArray, List.set_cons_zero, List.set_cons_succ]
                clear hF hk hm z0 z1 z2 zl zf0 zf1 zf2
                refine wpAnyH_take (i := 8) (oi := ?oi8u120) (v := ?v8u120) ?hi8u120 (by kernel_rfl) (by kernel_rfl) (by kernel_rfl) ?hQ8u120 (Or.inl ⟨?hw8u120, ?hy8u120⟩) hHeld ?rest8u120
                case hi8u120 => (simp only [List.getElem?_toArray, List.getElem?_cons_succ, List.getElem?_cons_zero]; exact rfl)
                case hQ8u120 => exact fun _ _ _ h => h
                case hw8u120 => rfl
                case hy8u120 => (intro w hSw; (try dsimp only at hSw); go_simp <;> with_reducible rfl)
                try simp only [Act.put, List.setIfInBounds_toArray, List.set_cons_zero, List.set_cons_succ]
                refine wpAnyH_done (by kernel_rfl) ?_ _
                clear hHeld
                go_wp2_with fail
                go_meet
                exact ⟨gm, gh, _, rfl, rfl, rfl, ZM6.out, ⟨A1, c1, B1, d1, ZG6.out, HC1.out.below HW6.out, HN1.out.below HW6.out⟩, Nh.out, Nd2.out, HW6.out⟩
              · obtain ⟨z0, z1, z2, zl, zf0, zf1, zf2⟩ := cells3 Zh4.out
                obtain ⟨F, hF, hm, hk⟩ := store_heap (A := A1) (n := l.length) (c := c1) (B := B1) (m := tr.length) (d := d1) (r := r) Zh4.out
                have ZG5 := Lib.hid hm
                have ZM5 := Lib.hid (ZM4.out.kq hk Nd2.out)
                have HW5 := Lib.hid (HW4.out.trans (hk.bel.mono Nh.out))
                go_simp
                rw [← hF]
                refine hK _ _ (HS.out _ HW5.out) ?_
                clear hK K hHeld
                have hHeld := HS.out _ HW5.out
                try simp only [Act.put, List.setIfInBounds_toArray, List.set_cons_zero, List.set_cons_succ]
                clear hF hk hm z0 z1 z2 zl zf0 zf1 zf2
                refine held_one (i := 3) (o := ?oi3u121) (by kernel_rfl) ?hi3u121 (fun K hK => ?rest3u121)
                case hi3u121 => (simp only [List.getElem?_toArray, List.getElem?_cons_succ, List.getElem?_cons_zero]; exact rfl)
                have HW6 := Lib.hid (HW5.out.alloc HW5.out.size (.cells #[] 3))
                go_simp
                refine hK _ _ (HS.out _ HW6.out) ?_
                clear hK K hHeld
                have hHeld := HS.out _ HW6.out
                try simp only [Act.put, List.setIfInBounds_toArray, List.set_cons_zero, List.set_cons_succ]
                have ZM6 := Lib.hid (ZM5.out.below (bas F (.cells #[] 3)))
                have ZG6 := Lib.hid (((bas F (.cells #[] 3)).block _ (block_lt ZG5.out)).trans ZG5.out)
                generalize F.alloc (.cells #[] 3) = v6 at *
                generalize F.heap.size = gz at *
                refine wpAnyH_take (i := 8) (oi := ?oi8u122) (v := ?v8u122) ?hi8u122 (by kernel_rfl) (by kernel_rfl) (by kernel_rfl) ?hQ8u122 (Or.inl ⟨?hw8u122, ?hy8u122⟩) hHeld ?rest8u122
                case hi8u122 => (simp only [List.getElem?_toArray, List.getElem?_cons_succ, List.getElem?_cons_zero]; exact rfl)
                case hQ8u122 => exact fun _ _ _ h => h
                case hw8u122 => rfl
                case hy8u122 => (intro w hSw; (try dsimp only at hSw); go_simp <;> with_reducible rfl)
                try simp only [Act.put, List.setIfInBounds_toArray, List.set_cons_zero, List.set_cons_succ]
                refine wpAnyH_done (by kernel_rfl) ?_ _
                clear hHeld
                go_wp2_with fail
                go_meet
                exact ⟨gm, gh, _, rfl, rfl, rfl, ZM6.out, ⟨A1, c1, B1, d1, ZG6.out, HC1.out.below HW6.out, HN1.out.below HW6.out⟩, Nh.out, Nd2.out, HW6.out⟩
        · have HW2 := Lib.hid (HW1.out.alloc HW1.out.size (.cells #[] 3))
          go_simp
          refine hK _ _ (HS.out _ HW2.out) ?_
          clear hK K hHeld
          have hHeld := HS.out _ HW2.out
          try simp only [Act.put, List.setIfInBounds_toArray, List.set_cons_zero, List.set_cons_succ]
          have Zh2 := Lib.hid (((bas v1 (.cells #[] 3)).block _ (block_lt Zh1.out)).trans Zh1.out)
          generalize v1.alloc (.cells #[] 3) = v2 at *
          generalize v1.heap.size = gz at *
          refine held_two (i := 1) (j := 4) (oi := ?oi1u123) (oj := ?oi4u123) (by kernel_rfl) ?hi1u123 ?hi4u123 (fun K hK => ?rest1u123) (fun K hK => ?rest4u123)
          case hi1u123 => (simp only [List.getElem?_toArray, List.getElem?_cons_succ, List.getElem?_cons_zero]; exact rfl)
          case hi4u123 => (simp only [List.getElem?_toArray, List.getElem?_cons_succ, List.getElem?_cons_zero]; exact rfl)
          · go_simp
            go_at_call 25
            refine (mark8 (n := 0) (e := 0) (D := none) Hok.out).mono ?_
            rintro e v3 ⟨rfl, hbq⟩
            have HW3 := Lib.hid (HW2.out.trans (hbq.mono HW2.out.size))
            have Zh3 := Lib.hid ((hbq.block _ (block_lt Zh2.out)).trans Zh2.out)
            clear hbq
            try go_simp
            refine hK _ _ (HS.out _ HW3.out) ?_
            clear hK K hHeld
            have hHeld := HS.out _ HW3.out
            try simp only [Act.put, List.setIfInBounds_toArray, List.set_cons_zero, List.set_cons_succ]
            refine held_one (i := 4) (o := ?oi4u124) (by kernel_rfl) ?hi4u124 (fun K hK => ?rest4u124)
            case hi4u124 => (simp only [List.getElem?_toArray, List.getElem?_cons_succ, List.getElem?_cons_zero]; exact rfl)
            have HW4 := Lib.hid (HW3.out.alloc HW3.out.size (.cells #[.int .i64 0, .int .i64 0, .slice none 0 0] 43))
            go_simp
            refine hK _ _ (HS.out _ HW4.out) ?_
            clear hK K hHeld
            have hHeld := HS.out _ HW4.out
            try simp only [Act.put, List.setIfInBounds_toArray, List.set_cons_zero, List.set_cons_succ]
            have Zh4 := Lib.hid (((bas v3 (.cells #[.int .i64 0, .int .i64 0, .slice none 0 0] 43)).block _ (block_lt Zh3.out)).trans Zh3.out)
            have Zm4 := Lib.hid (show (v3.alloc (.cells #[.int .i64 0, .int .i64 0, .slice none 0 0] 43)).heap[v3.heap.size]? = some (.cells #[.int .i64 0, .int .i64 0, .slice none 0 0] 43 (0, 0)) from alloc_at rfl)
            have Nm : Hid (X.heap.size ≤ v3.heap.size) := Lib.hid HW3.out.size
            have Nd : Hid (gh ≠ v3.heap.size) := Lib.hid (Nat.ne_of_lt (block_lt Zh3.out))
            generalize v3.alloc (.cells #[.int .i64 0, .int .i64 0, .slice none 0 0] 43) = v4 at *
            generalize v3.heap.size = gm at *
            have Nd2 : Hid (gm ≠ gh) := Lib.hid (fun e => Nd.out e.symm)
            refine held_one (i := 6) (o := ?oi6u125) (by kernel_rfl) ?hi6u125 (fun K hK => ?rest6u125)
            case hi6u125 => (simp only [List.getElem?_toArray, List.getElem?_cons_succ, List.getElem?_cons_zero]; exact rfl)
            obtain ⟨z0, z1, z2, zl, zf0, zf1, zf2⟩ := cells3 Zm4.out
            obtain ⟨F, hF, hm, hk⟩ := store_mark (n := l.length) (m := tr.length) Zm4.out
            have ZM5 := Lib.hid hm
            have Zh5 := Lib.hid ((hk.old gh (block_lt Zh4.out) (fun e => Nd2.out e.symm)).trans Zh4.out)
            have HW5 := Lib.hid (HW4.out.trans (hk.bel.mono Nm.out))
            go_simp
            rw [← hF]
            refine hK _ _ (HS.out _ HW5.out) ?_
            clear hK K hHeld
            have hHeld := HS.out _ HW5.out
            try simp only [Act.put, List.setIfInBounds_toArray, List.set_cons_zero, List.set_cons_succ]
            clear hF hk hm z0 z1 z2 zl zf0 zf1 zf2
            refine held_one (i := 7) (o := ?oi7u126) (by kernel_rfl) ?hi7u126 (fun K hK => ?rest7u126)
            case hi7u126 => (simp only [List.getElem?_toArray, List.getElem?_cons_succ, List.getElem?_cons_zero]; exact rfl)
            obtain ⟨z0, z1, z2, zl, zf0, zf1, zf2⟩ := cells3 Zh5.out
            obtain ⟨F, hF, hm, hk⟩ := store_heap (A := A1) (n := l.length) (c := c1) (B := B1) (m := tr.length) (d := d1) (r := r) Zh5.out
            have ZG6 := Lib.hid hm
            have ZM6 := Lib.hid (ZM5.out.kq hk Nd2.out)
            have HW6 := Lib.hid (HW5.out.trans (hk.bel.mono Nh.out))
            go_simp
            rw [← hF]
            refine hK _ _ (HS.out _ HW6.out) ?_
            clear hK K hHeld
            have hHeld := HS.out _ HW6.out
            try simp only [Act.put, List.setIfInBounds_toArray, List.set_cons_zero, List.set_cons_succ]
            clear hF hk hm z0 z1 z2 zl zf0 zf1 zf2
            refine wpAnyH_take (i := 8) (oi := ?oi8u127) (v := ?v8u127) ?hi8u127 (by kernel_rfl) (by kernel_rfl) (by kernel_rfl) ?hQ8u127 (Or.inl ⟨?hw8u127, ?hy8u127⟩) hHeld ?rest8u127
            case hi8u127 => (simp only [List.getElem?_toArray, List.getElem?_cons_succ, List.getElem?_cons_zero]; exact rfl)
            case hQ8u127 => exact fun _ _ _ h => h
            case hw8u127 => rfl
            case hy8u127 => (intro w hSw; (try dsimp only at hSw); go_simp <;> with_reducible rfl)
            try simp only [Act.put, List.setIfInBounds_toArray, List.set_cons_zero, List.set_cons_succ]
            refine wpAnyH_done (by kernel_rfl) ?_ _
            clear hHeld
            go_wp2_with fail
            go_meet
            exact ⟨gm, gh, _, rfl, rfl, rfl, ZM6.out, ⟨A1, c1, B1, d1, ZG6.out, HC1.out.below HW6.out, HN1.out.below HW6.out⟩, Nh.out, Nd2.out, HW6.out⟩
          · have HW3 := Lib.hid (HW2.out.alloc HW2.out.size (.cells #[.int .i64 0, .int .i64 0, .slice none 0 0] 43))
            go_simp
            refine hK _ _ (HS.out _ HW3.out) ?_
            clear hK K hHeld
            have hHeld := HS.out _ HW3.out
            try simp only [Act.put, List.setIfInBounds_toArray, List.set_cons_zero, List.set_cons_succ]
            have Zh3 := Lib.hid (((bas v2 (.cells #[.int .i64 0, .int .i64 0, .slice none 0 0] 43)).block _ (block_lt Zh2.out)).trans Zh2.out)
            have Zm3 := Lib.hid (show (v2.alloc (.cells #[.int .i64 0, .int .i64 0, .slice none 0 0] 43)).heap[v2.heap.size]? = some (.cells #[.int .i64 0, .int .i64 0, .slice none 0 0] 43 (0, 0)) from alloc_at rfl)
            have Nm : Hid (X.heap.size ≤ v2.heap.size) := Lib.hid HW2.out.size
            have Nd : Hid (gh ≠ v2.heap.size) := Lib.hid (Nat.ne_of_lt (block_lt Zh2.out))
            generalize v2.alloc (.cells #[.int .i64 0, .int .i64 0, .slice none 0 0] 43) = v3 at *
            generalize v2.heap.size = gm at *
            have Nd2 : Hid (gm ≠ gh) := Lib.hid (fun e => Nd.out e.symm)
            refine held_one (i := 1) (o := ?oi1u128) (by kernel_rfl) ?hi1u128 (fun K hK => ?rest1u128)
            case hi1u128 => (simp only [List.getElem?_toArray, List.getElem?_cons_succ, List.getElem?_cons_zero]; exact rfl)
            go_simp
            go_at_call 25
            refine (mark8 (n := 0) (e := 0) (D := none) Hok.out).mono ?_
            rintro e v4 ⟨rfl, hbq⟩
            have HW4 := Lib.hid (HW3.out.trans (hbq.mono HW3.out.size))
            have Zh4 := Lib.hid ((hbq.block _ (block_lt Zh3.out)).trans Zh3.out)
            have Zm4 := Lib.hid ((hbq.block _ (block_lt Zm3.out)).trans Zm3.out)
            clear hbq
            try go_simp
            refine hK _ _ (HS.out _ HW4.out) ?_
            clear hK K hHeld
            have hHeld := HS.out _ HW4.out
            try simp only [Act.put, List.setIfInBounds_toArray, List.set_cons_zero, List.set_cons_succ]
            refine held_one (i := 6) (o := ?oi6u129) (by kernel_rfl) ?hi6u129 (fun K hK => ?rest6u129)
            case hi6u129 => (simp only [List.getElem?_toArray, List.getElem?_cons_succ, List.getElem?_cons_zero]; exact rfl)
            obtain ⟨z0, z1, z2, zl, zf0, zf1, zf2⟩ := cells3 Zm4.out
            obtain ⟨F, hF, hm, hk⟩ := store_mark (n := l.length) (m := tr.length) Zm4.out
            have ZM5 := Lib.hid hm
            have Zh5 := Lib.hid ((hk.old gh (block_lt Zh4.out) (fun e => Nd2.out e.symm)).trans Zh4.out)
            have HW5 := Lib.hid (HW4.out.trans (hk.bel.mono Nm.out))
            go_simp
            rw [← hF]
            refine hK _ _ (HS.out _ HW5.out) ?_
            clear hK K hHeld
            have hHeld := HS.out _ HW5.out
            try simp only [Act.put, List.setIfInBounds_toArray, List.set_cons_zero, List.set_cons_succ]
            clear hF hk hm z0 z1 z2 zl zf0 zf1 zf2
            refine held_one (i := 7) (o := ?oi7u130) (by kernel_rfl) ?hi7u130 (fun K hK => ?rest7u130)
            case hi7u130 => (simp only [List.getElem?_toArray, List.getElem?_cons_succ, List.getElem?_cons_zero]; exact rfl)
            obtain ⟨z0, z1, z2, zl, zf0, zf1, zf2⟩ := cells3 Zh5.out
            obtain ⟨F, hF, hm, hk⟩ := store_heap (A := A1) (n := l.length) (c := c1) (B := B1) (m := tr.length) (d := d1) (r := r) Zh5.out
            have ZG6 := Lib.hid hm
            have ZM6 := Lib.hid (ZM5.out.kq hk Nd2.out)
            have HW6 := Lib.hid (HW5.out.trans (hk.bel.mono Nh.out))
            go_simp
            rw [← hF]
            refine hK _ _ (HS.out _ HW6.out) ?_
            clear hK K hHeld
            have hHeld := HS.out _ HW6.out
            try simp only [Act.put, List.setIfInBounds_toArray, List.set_cons_zero, List.set_cons_succ]
            clear hF hk hm z0 z1 z2 zl zf0 zf1 zf2
            refine wpAnyH_take (i := 8) (oi := ?oi8u131) (v := ?v8u131) ?hi8u131 (by kernel_rfl) (by kernel_rfl) (by kernel_rfl) ?hQ8u131 (Or.inl ⟨?hw8u131, ?hy8u131⟩) hHeld ?rest8u131
            case hi8u131 => (simp only [List.getElem?_toArray, List.getElem?_cons_succ, List.getElem?_cons_zero]; exact rfl)
            case hQ8u131 => exact fun _ _ _ h => h
            case hw8u131 => rfl
            case hy8u131 => (intro w hSw; (try dsimp only at hSw); go_simp <;> with_reducible rfl)
            try simp only [Act.put, List.setIfInBounds_toArray, List.set_cons_zero, List.set_cons_succ]
            refine wpAnyH_done (by kernel_rfl) ?_ _
            clear hHeld
            go_wp2_with fail
            go_meet
            exact ⟨gm, gh, _, rfl, rfl, rfl, ZM6.out, ⟨A1, c1, B1, d1, ZG6.out, HC1.out.below HW6.out, HN1.out.below HW6.out⟩, Nh.out, Nd2.out, HW6.out⟩
        · have HW2 := Lib.hid (HW1.out.alloc HW1.out.size (.cells #[.int .i64 0, .int .i64 0, .slice none 0 0] 43))
          go_simp
          refine hK _ _ (HS.out _ HW2.out) ?_
          clear hK K hHeld
          have hHeld := HS.out _ HW2.out
          try simp only [Act.put, List.setIfInBounds_toArray, List.set_cons_zero, List.set_cons_succ]
          have Zh2 := Lib.hid (((bas v1 (.cells #[.int .i64 0, .int .i64 0, .slice none 0 0] 43)).block _ (block_lt Zh1.out)).trans Zh1.out)
          have Zm2 := Lib.hid (show (v1.alloc (.cells #[.int .i64 0, .int .i64 0, .slice none 0 0] 43)).heap[v1.heap.size]? = some (.cells #[.int .i64 0, .int .i64 0, .slice none 0 0] 43 (0, 0)) from alloc_at rfl)
          have Nm : Hid (X.heap.size ≤ v1.heap.size) := Lib.hid HW1.out.size
          have Nd : Hid (gh ≠ v1.heap.size) := Lib.hid (Nat.ne_of_lt (block_lt Zh1.out))
          generalize v1.alloc (.cells #[.int .i64 0, .int .i64 0, .slice none 0 0] 43) = v2 at *
          generalize v1.heap.size = gm at *
          have Nd2 : Hid (gm ≠ gh) := Lib.hid (fun e => Nd.out e.symm)
          refine held_two (i := 1) (j := 3) (oi := ?oi1u132) (oj := ?oi3u132) (by kernel_rfl) ?hi1u132 ?hi3u132 (fun K hK => ?rest1u132) (fun K hK => ?rest3u132)
          case hi1u132 => (simp only [List.getElem?_toArray, List.getElem?_cons_succ, List.getElem?_cons_zero]; exact rfl)
          case hi3u132 => (simp only [List.getElem?_toArray, List.getElem?_cons_succ, List.getElem?_cons_zero]; exact rfl)
          · go_simp
            go_at_call 25
            refine (mark8 (n := 0) (e := 0) (D := none) Hok.out).mono ?_
            rintro e v3 ⟨rfl, hbq⟩
            have HW3 := Lib.hid (HW2.out.trans (hbq.mono HW2.out.size))
            have Zh3 := Lib.hid ((hbq.block _ (block_lt Zh2.out)).trans Zh2.out)
            have Zm3 := Lib.hid ((hbq.block _ (block_lt Zm2.out)).trans Zm2.out)
            clear hbq
            try go_simp
            refine hK _ _ (HS.out _ HW3.out) ?_
            clear hK K hHeld
            have hHeld := HS.out _ HW3.out
            try simp only [Act.put, List.setIfInBounds_toArray, List.set_cons_zero, List.set_cons_succ]
            refine held_two (i := 3) (j := 6) (oi := ?oi3u133) (oj := ?oi6u133) (by kernel_rfl) ?hi3u133 ?hi6u133 (fun K hK => ?rest3u133) (fun K hK => ?rest6u133)
            case hi3u133 => (simp only [List.getElem?_toArray, List.getElem?_cons_succ, List.getElem?_cons_zero]; exact rfl)
            case hi6u133 => (simp only [List.getElem?_toArray, List.getElem?_cons_succ, List.getElem?_cons_zero]; exact rfl)
            · have HW4 := Lib.hid (HW3.out.alloc HW3.out.size (.cells #[] 3))
              go_simp
              refine hK _ _ (HS.out _ HW4.out) ?_
              clear hK K hHeld
              have hHeld := HS.out _ HW4.out
              try simp only [Act.put, List.setIfInBounds_toArray, List.set_cons_zero, List.set_cons_succ]
              have Zh4 := Lib.hid (((bas v3 (.cells #[] 3)).block _ (block_lt Zh3.out)).trans Zh3.out)
              have Zm4 := Lib.hid (((bas v3 (.cells #[] 3)).block _ (block_lt Zm3.out)).trans Zm3.out)
              generalize v3.alloc (.cells #[] 3) = v4 at *
              generalize v3.heap.size = gz at *
              refine held_one (i := 6) (o := ?oi6u134) (by kernel_rfl) ?hi6u134 (fun K hK => ?rest6u134)
              case hi6u134 => (simp only [List.getElem?_toArray, List.getElem?_cons_succ, List.getElem?_cons_zero]; exact rfl)
              obtain ⟨z0, z1, z2, zl, zf0, zf1, zf2⟩ := cells3 Zm4.out
              obtain ⟨F, hF, hm, hk⟩ := store_mark (n := l.length) (m := tr.length) Zm4.out
              have ZM5 := Lib.hid hm
              have Zh5 := Lib.hid ((hk.old gh (block_lt Zh4.out) (fun e => Nd2.out e.symm)).trans Zh4.out)
              have HW5 := Lib.hid (HW4.out.trans (hk.bel.mono Nm.out))
              go_simp
              rw [← hF]
              refine hK _ _ (HS.out _ HW5.out) ?_
              clear hK K hHeld
              have hHeld := HS.out _ HW5.out
              try simp only [Act.put, List.setIfInBounds_toArray, List.set_cons_zero, List.set_cons_succ]
              clear hF hk hm z0 z1 z2 zl zf0 zf1 zf2
              refine held_one (i := 7) (o := ?oi7u135) (by kernel_rfl) ?hi7u135 (fun K hK => ?rest7u135)
              case hi7u135 => (simp only [List.getElem?_toArray, List.getElem?_cons_succ, List.getElem?_cons_zero]; exact rfl)
              obtain ⟨z0, z1, z2, zl, zf0, zf1, zf2⟩ := cells3 Zh5.out
              obtain ⟨F, hF, hm, hk⟩ := store_heap (A := A1) (n := l.length) (c := c1) (B := B1) (m := tr.length) (d := d1) (r := r) Zh5.out
              have ZG6 := Lib.hid hm
              have ZM6 := Lib.hid (ZM5.out.kq hk Nd2.out)
              have HW6 := Lib.hid (HW5.out.trans (hk.bel.mono Nh.out))
              go_simp
              rw [← hF]
              refine hK _ _ (HS.out _ HW6.out) ?_
              clear hK K hHeld
              have hHeld := HS.out _ HW6.out
              try simp only [Act.put, List.setIfInBounds_toArray, List.set_cons_zero, List.set_cons_succ]
              clear hF hk hm z0 z1 z2 zl zf0 zf1 zf2
              refine wpAnyH_take (i := 8) (oi := ?oi8u136) (v := ?v8u136) ?hi8u136 (by kernel_rfl) (by kernel_rfl) (by kernel_rfl) ?hQ8u136 (Or.inl ⟨?hw8u136, ?hy8u136⟩) hHeld ?rest8u136
              case hi8u136 => (simp only [List.getElem?_toArray, List.getElem?_cons_succ, List.getElem?_cons_zero]; exact rfl)
              case hQ8u136 => exact fun _ _ _ h => h
              case hw8u136 => rfl
              case hy8u136 => (intro w hSw; (try dsimp only at hSw); go_simp <;> with_reducible rfl)
              try simp only [Act.put, List.setIfInBounds_toArray, List.set_cons_zero, List.set_cons_succ]
              refine wpAnyH_done (by kernel_rfl) ?_ _
              clear hHeld
              go_wp2_with fail
              go_meet
              exact ⟨gm, gh, _, rfl, rfl, rfl, ZM6.out, ⟨A1, c1, B1, d1, ZG6.out, HC1.out.below HW6.out, HN1.out.below HW6.out⟩, Nh.out, Nd2.out, HW6.out⟩
            · obtain ⟨z0, z1, z2, zl, zf0, zf1, zf2⟩ := cells3 Zm3.out
              obtain ⟨F, hF, hm, hk⟩ := store_mark (n := l.length) (m := tr.length) Zm3.out
              have ZM4 := Lib.hid hm
              have Zh4 := Lib.hid ((hk.old gh (block_lt Zh3.out) (fun e => Nd2.out e.symm)).trans Zh3.out)
              have HW4 := Lib.hid (HW3.out.trans (hk.bel.mono Nm.out))
              go_simp
              rw [← hF]
              refine hK _ _ (HS.out _ HW4.out) ?_
              clear hK K hHeld
              have hHeld := HS.out _ HW4.out
              try simp only [Act.put, List.setIfInBounds_toArray, List.set_cons_zero, List.set_cons_succ]
              clear hF hk hm z0 z1 z2 zl zf0 zf1 zf2
              refine held_two (i := 3) (j := 7) (oi := ?oi3u137) (oj := ?oi7u137) (by kernel_rfl) ?hi3u137 ?hi7u137 (fun K hK => ?rest3u137) (fun K hK => ?rest7u137)
              case hi3u137 => (simp only [List.getElem?_toArray, List.getElem?_cons_succ, List.getElem?_cons_zero]; exact rfl)
              case hi7u137 => (simp only [List.getElem?_toArray, List.getElem?_cons_succ, List.getElem?_cons_zero]; exact rfl)
              · have HW5 := Lib.hid (HW4.out.alloc HW4.out.size (.cells #[] 3))
                go_simp
                refine hK _ _ (HS.out _ HW5.out) ?_
                clear hK K hHeld
                have hHeld := HS.out _ HW5.out
                try simp only [Act.put, List.setIfInBounds_toArray, List.set_cons_zero, List.set_cons_succ]
                have ZM5 := Lib.hid (ZM4.out.below (bas F (.cells #[] 3)))
                have Zh5 := Lib.hid (((bas F (.cells #[] 3)).block _ (block_lt Zh4.out)).trans Zh4.out)
                generalize F.alloc (.cells #[] 3) = v5 at *
                generalize F.heap.size = gz at *
                refine held_one (i := 7) (o := ?oi7u138) (by kernel_rfl) ?hi7u138 (fun K hK => ?rest7u138)
                case hi7u138 => (simp only [List.getElem?_toArray, List.getElem?_cons_succ, List.getElem?_cons_zero]; exact rfl)
                obtain ⟨z0, z1, z2, zl, zf0, zf1, zf2⟩ := cells3 Zh5.out
                obtain ⟨F, hF, hm, hk⟩ := store_heap (A := A1) (n := l.length) (c := c1) (B := B1) (m := tr.length) (d := d1) (r := r) Zh5.out
                have ZG6 := Lib.hid hm
                have ZM6 := Lib.hid (ZM5.out.kq hk Nd2.out)
                have HW6 := Lib.hid (HW5.out.trans (hk.bel.mono Nh.out))
                go_simp
                rw [← hF]
                refine hK _ _ (HS.out _ HW6.out) ?_
                clear hK K hHeld
                have hHeld := HS.out _ HW6.out
                try simp only [Act.put, List.setIfInBounds_toArray, List.set_cons_zero, List.set_cons_succ]
                clear hF hk hm z0 z1 z2 zl zf0 zf1 zf2
                refine wpAnyH_take (i := 8) (oi := ?oi8u139) (v := ?v8u139) ?hi8u139 (by kernel_rfl) (by kernel_rfl) (by kernel_rfl) ?hQ8u139 (Or.inl ⟨?hw8u139, ?hy8u139⟩) hHeld ?rest8u139
                case hi8u139 => (simp only [List.getElem?_toArray, List.getElem?_cons_succ, List.getElem?_cons_zero]; exact rfl)
                case hQ8u139 => exact fun _ _ _ h => h
                case hw8u139 => rfl
                case hy8u139 => (intro w hSw; (try dsimp only at hSw); go_simp <;> with_reducible rfl)
                try simp only [Act.put, List.setIfInBounds_toArray, List.set_cons_zero, List.set_cons_succ]
                refine wpAnyH_done (by kernel_rfl) ?_ _
                clear hHeld
                go_wp2_with fail
                go_meet
                exact ⟨gm, gh, _, rfl, rfl, rfl, ZM6.out, ⟨A1, c1, B1, d1, ZG6.out, HC1.out.below HW6.out, HN1.out.below HW6.out⟩, Nh.out, Nd2.out, HW6.out⟩
              · obtain ⟨z0, z1, z2, zl, zf0, zf1, zf2⟩ := cells3 Zh4.out
                obtain ⟨F, hF, hm, hk⟩ := store_heap (A := A1) (n := l.length) (c := c1) (B := B1) (m := tr.length) (d := d1) (r := r) Zh4.out
                have ZG5 := Lib.hid hm
                have ZM5 := Lib.hid (ZM4.out.kq hk Nd2.out)
                have HW5 := Lib.hid (HW4.out.trans (hk.bel.mono Nh.out))
                go_simp
                rw [← hF]
                refine hK _ _ (HS.out _ HW5.out) ?_
                clear hK K hHeld
                have hHeld := HS.out _ HW5.out
                try simp only [Act.put, List.setIfInBounds_toArray, List.set_cons_zero, List.set_cons_succ]
                clear hF hk hm z0 z1 z2 zl zf0 zf1 zf2
                refine held_one (i := 3) (o := ?oi3u140) (by kernel_rfl) ?hi3u140 (fun K hK => ?rest3u140)
                case hi3u140 => (simp only [List.getElem?_toArray, List.getElem?_cons_succ, List.getElem?_cons_zero]; exact rfl)
                have HW6 := Lib.hid (HW5.out.alloc HW5.out.size (.cells #[] 3))
                go_simp
                refine hK _ _ (HS.out _ HW6.out) ?_
                clear hK K hHeld
                have hHeld := HS.out _ HW6.out
                try simp only [Act.put, List.setIfInBounds_toArray, List.set_cons_zero, List.set_cons_succ]
                have ZM6 := Lib.hid (ZM5.out.below (bas F (.cells #[] 3)))
                have ZG6 := Lib.hid (((bas F (.cells #[] 3)).block _ (block_lt ZG5.out)).trans ZG5.out)
                generalize F.alloc (.cells #[] 3) = v6 at *
                generalize F.heap.size = gz at *
                refine wpAnyH_take (i := 8) (oi := ?oi8u141) (v := ?v8u141) ?hi8u141 (by kernel_rfl) (by kernel_rfl) (by kernel_rfl) ?hQ8u141 (Or.inl ⟨?hw8u141, ?hy8u141⟩) hHeld ?rest8u141
                case hi8u141 => (simp only [List.getElem?_toArray, List.getElem?_cons_succ, List.getElem?_cons_zero]; exact rfl)
                case hQ8u141 => exact fun _ _ _ h => h
                case hw8u141 => rfl
                case hy8u141 => (intro w hSw; (try dsimp only at hSw); go_simp <;> with_reducible rfl)
                try simp only [Act.put, List.setIfInBounds_toArray, List.set_cons_zero, List.set_cons_succ]
                refine wpAnyH_done (by kernel_rfl) ?_ _
                clear hHeld
                go_wp2_with fail
                go_meet
                exact ⟨gm, gh, _, rfl, rfl, rfl, ZM6.out, ⟨A1, c1, B1, d1, ZG6.out, HC1.out.below HW6.out, HN1.out.below HW6.out⟩, Nh.out, Nd2.out, HW6.out⟩
          · have HW3 := Lib.hid (HW2.out.alloc HW2.out.size (.cells #[] 3))
            go_simp
            refine hK _ _ (HS.out _ HW3.out) ?_
            clear hK K hHeld
            have hHeld := HS.out _ HW3.out
            try simp only [Act.put, List.setIfInBounds_toArray, List.set_cons_zero, List.set_cons_succ]
            have Zh3 := Lib.hid (((bas v2 (.cells #[] 3)).block _ (block_lt Zh2.out)).trans Zh2.out)
            have Zm3 := Lib.hid (((bas v2 (.cells #[] 3)).block _ (block_lt Zm2.out)).trans Zm2.out)
            generalize v2.alloc (.cells #[] 3) = v3 at *
            generalize v2.heap.size = gz at *
            refine held_one (i := 1) (o := ?oi1u142) (by kernel_rfl) ?hi1u142 (fun K hK => ?rest1u142)
            case hi1u142 => (simp only [List.getElem?_toArray, List.getElem?_cons_succ, List.getElem?_cons_zero]; exact rfl)
            go_simp
            go_at_call 25
            refine (mark8 (n := 0) (e := 0) (D := none) Hok.out).mono ?_
            rintro e v4 ⟨rfl, hbq⟩
            have HW4 := Lib.hid (HW3.out.trans (hbq.mono HW3.out.size))
            have Zh4 := Lib.hid ((hbq.block _ (block_lt Zh3.out)).trans Zh3.out)
            have Zm4 := Lib.hid ((hbq.block _ (block_lt Zm3.out)).trans Zm3.out)
            clear hbq
            try go_simp
            refine hK _ _ (HS.out _ HW4.out) ?_
            clear hK K hHeld
            have hHeld := HS.out _ HW4.out
            try simp only [Act.put, List.setIfInBounds_toArray, List.set_cons_zero, List.set_cons_succ]
            refine held_one (i := 6) (o := ?oi6u143) (by kernel_rfl) ?hi6u143 (fun K hK => ?rest6u143)
            case hi6u143 => (simp only [List.getElem?_toArray, List.getElem?_cons_succ, List.getElem?_cons_zero]; exact rfl)
            obtain ⟨z0, z1, z2, zl, zf0, zf1, zf2⟩ := cells3 Zm4.out
            obtain ⟨F, hF, hm, hk⟩ := store_mark (n := l.length) (m := tr.length) Zm4.out
            have ZM5 := Lib.hid hm
            have Zh5 := Lib.hid ((hk.old gh (block_lt Zh4.out) (fun e => Nd2.out e.symm)).trans Zh4.out)
            have HW5 := Lib.hid (HW4.out.trans (hk.bel.mono Nm.out))
            go_simp
            rw [← hF]
            refine hK _ _ (HS.out _ HW5.out) ?_
            clear hK K hHeld
            have hHeld := HS.out _ HW5.out
            try simp only [Act.put, List.setIfInBounds_toArray, List.set_cons_zero, List.set_cons_succ]
            clear hF hk hm z0 z1 z2 zl zf0 zf1 zf2
            refine held_one (i := 7) (o := ?oi7u144) (by kernel_rfl) ?hi7u144 (fun K hK => ?rest7u144)
            case hi7u144 => (simp only [List.getElem?_toArray, List.getElem?_cons_succ, List.getElem?_cons_zero]; exact rfl)
            obtain ⟨z0, z1, z2, zl, zf0, zf1, zf2⟩ := cells3 Zh5.out
            obtain ⟨F, hF, hm, hk⟩ := store_heap (A := A1) (n := l.length) (c := c1) (B := B1) (m := tr.length) (d := d1) (r := r) Zh5.out
            have ZG6 := Lib.hid hm
            have ZM6 := Lib.hid (ZM5.out.kq hk Nd2.out)
            have HW6 := Lib.hid (HW5.out.trans (hk.bel.mono Nh.out))
            go_simp
            rw [← hF]
            refine hK _ _ (HS.out _ HW6.out) ?_
            clear hK K hHeld
            have hHeld := HS.out _ HW6.out
            try simp only [Act.put, List.setIfInBounds_toArray, List.set_cons_zero, List.set_cons_succ]
            clear hF hk hm z0 z1 z2 zl zf0 zf1 zf2
            refine wpAnyH_take (i := 8) (oi := ?oi8u145) (v := ?v8u145) ?hi8u145 (by kernel_rfl) (by kernel_rfl) (by kernel_rfl) ?hQ8u145 (Or.inl ⟨?hw8u145, ?hy8u145⟩) hHeld ?rest8u145
            case hi8u145 => (simp only [List.getElem?_toArray, List.getElem?_cons_succ, List.getElem?_cons_zero]; exact rfl)
            case hQ8u145 => exact fun _ _ _ h => h
            case hw8u145 => rfl
            case hy8u145 => (intro w hSw; (try dsimp only at hSw); go_simp <;> with_reducible rfl)
            try simp only [Act.put, List.setIfInBounds_toArray, List.set_cons_zero, List.set_cons_succ]
            refine wpAnyH_done (by kernel_rfl) ?_ _
            clear hHeld
            go_wp2_with fail
            go_meet
            exact ⟨gm, gh, _, rfl, rfl, rfl, ZM6.out, ⟨A1, c1, B1, d1, ZG6.out, HC1.out.below HW6.out, HN1.out.below HW6.out⟩, Nh.out, Nd2.out, HW6.out⟩
  case rest =>
    obtain ⟨gm, gh, Z, rfl, rfl, rfl, hM, hG, hgh, hmh, hbn⟩ := hcut
    have n0 : g0 ≠ gh := by have := hB.lt; omega
    have nw : w.heap.size ≤ gh := by have := hbX.size; omega
    replace hB := hB.below hbn
    replace hbX := hbX.trans (hbn.mono hbX.size)
    clear hbn hgh
    generalize wc = X at *
    refine ‹∀ (a : Act) (w : World), Code.wp _ _ _ a w → _› _ _ ?_
    have Hh0 := Lib.hid (show OkH ⟨l, tr, r⟩ ∧ AtL l.length [] ∧ Hst l tr l tr [] from ⟨Hok.out, atL_nil _, Hst.refl _ _⟩)
    go_wp2
    go_loopw [8, 9] (fun atv iv wr => ∃ (i : Nat) (L : List C) (TR ds a : List Int) (D : Option Addr) (pn e : Nat), i ≤ nq ∧ i ≤ 20 ∧ iv = .int .i64 i ∧ atv = .slice D pn e ∧ LInv w g0 gh l tr r wr L TR ds a D pn e ∧ MB wr gm l.length tr.length) (fun _ iv _ => 20 - (intOf iv).toNat)
    case atStart => exact ⟨0, l, tr, [], [], Z, 0, 0, Nat.zero_le _, by omega, rfl, rfl, ⟨isI_nil8 _ _, by simp, by simp, Hok.out, atL_nil _, Hst.refl _ _, hG, hB, hbX⟩, hM⟩
    case round =>
      clear hG hB hM hbX Hh0
      obtain ⟨i, L, TR, ds, a, D, pn, e, hi, hi20, rfl, rfl, hI, hM⟩ := hrel
      by_cases hlt : i < nq
      · by_cases hl2 : i < 20
        · have hd1 : decide ((i : Int) < (nq : Int)) = true := by simp; omega
          have hd2 : decide ((i : Int) < 20) = true := by simp; omega
          obtain ⟨bo, oo, o, Ao, no, co, rfl, hbo, hto, e0, e1, e2⟩ := ops_at Hq.out hlt
          obtain ⟨hqc, hqm⟩ := ops_cap Hq.out
          have hTl := hto.len
          subst hTl
          have e0' := (hI.low.cell (p := ⟨bo, oo + i * 3, none⟩) hbo).trans e0
          have e1' := (hI.low.cell (p := ⟨bo, oo + i * 3 + 1, none⟩) hbo).trans e1
          have e2' := (hI.low.cell (p := ⟨bo, oo + i * 3 + 2, none⟩) hbo).trans e2
          have hbo' := Nat.lt_of_lt_of_le hbo hI.low.size
          have hto' := hto.below hI.low
          have hTc := hto.sl.hmax
          have HI := Lib.hid hI
          have HM := Lib.hid hM
          have Hto := Lib.hid hto
          have E0 := Lib.hid e0
          have E1 := Lib.hid e1
          have E2 := Lib.hid e2
          have Hbo := Lib.hid hbo
          clear hI hM hto e0 e1 e2 hbo
          go_upto_region 8 with fail
          obtain ⟨cd, hcd⟩ : ∃ cd, (decide (o.t.length ≤ 210) && rightB o.t) = cd := ⟨_, rfl⟩
          have Hcd := Lib.hid hcd
          clear hcd
          go_cut [49] from 35 to 48 (fun v wx => v = .bool cd ∧ Below wr.heap.size wr wx)
          case first =>
            by_cases h210 : 210 < o.t.length
            · have hz : ¬ (o.t.length : Int) ≤ 210 := by omega
              have hzz : decide (o.t.length ≤ 210) = false := by simp; omega
              go_wp2
              go_meet
              exact ⟨by rw [← Hcd.out, hzz]; rfl, Below.refl _ _⟩
            · have hz : (o.t.length : Int) ≤ 210 := by omega
              have hzz : decide (o.t.length ≤ 210) = true := by simp; omega
              have Hri := Lib.hid (rRight_any Ao o.t.length co o.t wr hto' (by omega))
              clear hto'
              cases hrt : rightB o.t
              · rw [hrt] at Hri
                have Hrt := Lib.hid hrt
                clear hrt
                go_wp2_with (first | (go_at_call 17; go_must (refine Hri.out.mono ?_); rintro e wn ⟨rfl, hbn⟩))
                go_meet
                exact ⟨by rw [← Hcd.out, hzz, Hrt.out]; rfl, hbn⟩
              · rw [hrt] at Hri
                have Hrt := Lib.hid hrt
                clear hrt
                go_wp2_with (first | (go_at_call 17; go_must (refine Hri.out.mono ?_); rintro e wn ⟨rfl, hbn⟩))
                go_meet
                exact ⟨by rw [← Hcd.out, hzz, Hrt.out]; rfl, hbn⟩
          case rest =>
            obtain ⟨rfl, hbn⟩ := hcut
            have HI1 := Lib.hid (HI.out.below hbn)
            have HM1 := Lib.hid (HM.out.below hbn)
            clear HI HM e0' e1' e2' hbo' hto' hbn
            generalize wc = X at *
            refine ‹∀ (a : Act) (w : World), Code.wp _ _ _ a w → _› _ _ ?_
            go_cut [8, 10, 11, 12, 13] from 50 to 66 (fun atv _ _ _ _ wx => ∃ (L1 : List C) (ds1 a1 : List Int) (D1 : Option Addr) (p1 e1 : Nat), atv = .slice D1 p1 e1 ∧ LInv w g0 gh l tr r wx L1 TR ds1 a1 D1 p1 e1 ∧ MB wx gm l.length tr.length)
            case first =>
              cases cd
              · go_wp2
                go_meet
                exact ⟨L, ds, a, D, pn, e, rfl, HI1.out, HM1.out⟩
              · go_upto_region 9 with fail
                obtain ⟨T, hTok, hTf, hTs⟩ := right_tree (t := o.t) (by have := Hcd.out; simp only [Bool.and_eq_true] at this; exact this.2)
                obtain ⟨ok3, ds3, hs3⟩ := pRes_ok HI1.out.ok hTok HI1.out.atl
                have Ok3 := Lib.hid ok3
                have Hs3 := Lib.hid hs3
                have hgX := HI1.out.heap.lt
                have Hpl := Lib.hid (show ((putA L T a).1.length : Int) ≤ r → AtL (pRes L T a r).length (putA L T a).2.2 ∧ (putA L T a).2.2.length ≤ 1000 ∧ (putA L T a).2.1 < (pRes L T a r).length from fun hf => by
                  obtain ⟨_, _, q3, q4⟩ := put_okH HI1.out.ok hTok HI1.out.atl hf
                  unfold pRes
                  rw [if_pos hf]
                  exact ⟨q3, putA_row8 hTok L HI1.out.len, q4⟩)
                clear ok3 hs3
                go_cut [10, 11, 12, 13] from 50 to 62 (fun v10 v11 v12 v13 wx => ∃ (gx : Nat) (D1 : Option Addr) (p1 e1 : Nat) (q1 x1 : Int), v10 = .pointer (some ⟨gx, 0, none⟩) ∧ v11 = .int .i64 q1 ∧ v12 = .slice D1 p1 e1 ∧ v13 = .int .i64 x1 ∧ HB wx gx (pRes L T a r) TR r ∧ X.heap.size ≤ gx ∧ Below X.heap.size X wx ∧ ((((putA L T a).1.length : Int) ≤ r ∧ x1 = 0 ∧ q1 = ((putA L T a).2.1 : Nat) ∧ IsI wx D1 p1 e1 (putA L T a).2.2 ∧ (p1 ≠ 0 → ∀ z, D1 = some z → X.heap.size ≤ z.block)) ∨ (¬ ((putA L T a).1.length : Int) ≤ r ∧ x1 = 80)))
                case first =>
                  obtain ⟨Ag, cg, Bg, dg, ⟨hCg, hNg⟩, hYg⟩ := HI1.out.heap.open
                  have hS : ∀ w', Below X.heap.size X w' → w'.cell? ⟨gh, 0, none⟩ = some (.slice Ag L.length cg) ∧ w'.cell? ⟨gh, 1, none⟩ = some (.slice Bg TR.length dg) ∧ w'.cell? ⟨gh, 2, none⟩ = some (.int .i64 r) ∧ w'.cell? ⟨bo, oo + i * 3, none⟩ = some (.slice Ao o.t.length co) := fun w' hb => by
                    obtain ⟨p0, p1, p2, _⟩ := hYg w' hb
                    exact ⟨p0, p1, p2, ((HI1.out.low.trans (hb.mono HI1.out.low.size)).cell (p := ⟨bo, oo + i * 3, none⟩) Hbo.out).trans E0.out⟩
                  have hz9 : (i : Int) < (nq : Int) := by omega
                  refine wp_region_held_drew (S := fun w' => w'.cell? ⟨gh, 0, none⟩ = some (.slice Ag L.length cg) ∧ w'.cell? ⟨gh, 1, none⟩ = some (.slice Bg TR.length dg) ∧ w'.cell? ⟨gh, 2, none⟩ = some (.int .i64 r) ∧ w'.cell? ⟨bo, oo + i * 3, none⟩ = some (.slice Ao o.t.length co)) (by kernel_rfl) ?gs9 ?gr9
                  case gs9 => exact hS _ (Below.refl _ _).drew
                  case gr9 =>
                    intro hHeld
                    have HS := Lib.hid hS
                    have HNg := Lib.hid hNg
                    have Hput := Lib.hid (fun wx (hb : Below X.heap.size X wx) => put8 (B := Bg) (d := dg) (tr := TR) (r := r) (hCg.below hb) (by rw [hTf]; exact (Hto.out.below HI1.out.low).below hb) (HI1.out.at_.below hb) HI1.out.ok hTok hTs HI1.out.len)
                    have HV : Hid (Below X.heap.size X X.drew) := Lib.hid ((Below.refl _ _).drew)
                    clear hS hYg hCg hNg hgX
                    generalize X.drew = V at *

                    refine wpAnyH_take (i := 0) (oi := ?oi0u146) (v := ?v0u146) ?hi0u146 (by kernel_rfl) (by kernel_rfl) (by kernel_rfl) ?hQ0u146 (Or.inl ⟨?hw0u146, ?hy0u146⟩) hHeld ?rest0u146
                    case hi0u146 => (simp only [List.getElem?_toArray, List.getElem?_cons_succ, List.getElem?_cons_zero]; exact rfl)
                    case hQ0u146 => exact fun _ _ _ h => h
                    case hw0u146 => rfl
                    case hy0u146 => (intro w hSw; (try dsimp only at hSw); go_simp <;> with_reducible rfl)
                    try simp only [Act.put, List.setIfInBounds_toArray, List.set_cons_zero, List.set_cons_succ]
                    refine wpAnyH_take (i := 1) (oi := ?oi1u147) (v := ?v1u147) ?hi1u147 (by kernel_rfl) (by kernel_rfl) (by kernel_rfl) ?hQ1u147 (Or.inl ⟨?hw1u147, ?hy1u147⟩) hHeld ?rest1u147
                    case hi1u147 => (simp only [List.getElem?_toArray, List.getElem?_cons_succ, List.getElem?_cons_zero]; exact rfl)
                    case hQ1u147 => exact fun _ _ _ h => h
                    case hw1u147 => rfl
                    case hy1u147 => (intro w hSw; (try dsimp only at hSw); go_simp <;> with_reducible rfl)
                    try simp only [Act.put, List.setIfInBounds_toArray, List.set_cons_zero, List.set_cons_succ]
                    refine wpAnyH_take (i := 2) (oi := ?oi2u148) (v := ?v2u148) ?hi2u148 (by kernel_rfl) (by kernel_rfl) (by kernel_rfl) ?hQ2u148 (Or.inl ⟨?hw2u148, ?hy2u148⟩) hHeld ?rest2u148
                    case hi2u148 => (simp only [List.getElem?_toArray, List.getElem?_cons_succ, List.getElem?_cons_zero]; exact rfl)
                    case hQ2u148 => exact fun _ _ _ h => h
                    case hw2u148 => rfl
                    case hy2u148 => (intro w hSw; (try dsimp only at hSw); go_simp <;> with_reducible rfl)
                    try simp only [Act.put, List.setIfInBounds_toArray, List.set_cons_zero, List.set_cons_succ]
                    refine wpAnyH_take (i := 3) (oi := ?oi3u149) (v := ?v3u149) ?hi3u149 (by kernel_rfl) (by kernel_rfl) (by kernel_rfl) ?hQ3u149 (Or.inl ⟨?hw3u149, ?hy3u149⟩) hHeld ?rest3u149
                    case hi3u149 => (simp only [List.getElem?_toArray, List.getElem?_cons_succ, List.getElem?_cons_zero]; exact rfl)
                    case hQ3u149 => exact fun _ _ _ h => h
                    case hw3u149 => rfl
                    case hy3u149 => (intro w hSw; (try dsimp only at hSw); go_simp <;> with_reducible rfl)
                    try simp only [Act.put, List.setIfInBounds_toArray, List.set_cons_zero, List.set_cons_succ]
                    refine wpAnyH_take (i := 4) (oi := ?oi4u150) (v := ?v4u150) ?hi4u150 (by kernel_rfl) (by kernel_rfl) (by kernel_rfl) ?hQ4u150 (Or.inl ⟨?hw4u150, ?hy4u150⟩) hHeld ?rest4u150
                    case hi4u150 => (simp only [List.getElem?_toArray, List.getElem?_cons_succ, List.getElem?_cons_zero]; exact rfl)
                    case hQ4u150 => exact fun _ _ _ h => h
                    case hw4u150 => rfl
                    case hy4u150 => (intro w hSw; (try dsimp only at hSw); go_simp <;> with_reducible rfl)
                    try simp only [Act.put, List.setIfInBounds_toArray, List.set_cons_zero, List.set_cons_succ]
                    refine wpAnyH_take (i := 5) (oi := ?oi5u151) (v := ?v5u151) ?hi5u151 (by kernel_rfl) (by kernel_rfl) (by kernel_rfl) ?hQ5u151 (Or.inl ⟨?hw5u151, ?hy5u151⟩) hHeld ?rest5u151
                    case hi5u151 => (simp only [List.getElem?_toArray, List.getElem?_cons_succ, List.getElem?_cons_zero]; exact rfl)
                    case hQ5u151 => exact fun _ _ _ h => h
                    case hw5u151 => rfl
                    case hy5u151 => (intro w hSw; (try dsimp only at hSw); go_simp <;> with_reducible rfl)
                    try simp only [Act.put, List.setIfInBounds_toArray, List.set_cons_zero, List.set_cons_succ]
                    refine wpAnyH_take (i := 6) (oi := ?oi6u152) (v := ?v6u152) ?hi6u152 (by kernel_rfl) (by kernel_rfl) (by kernel_rfl) ?hQ6u152 (Or.inl ⟨?hw6u152, ?hy6u152⟩) hHeld ?rest6u152
                    case hi6u152 => (simp only [List.getElem?_toArray, List.getElem?_cons_succ, List.getElem?_cons_zero]; exact rfl)
                    case hQ6u152 => exact fun _ _ _ h => h
                    case hw6u152 => rfl
                    case hy6u152 => (intro w hSw; (try dsimp only at hSw); go_simp <;> with_reducible rfl)
                    try simp only [Act.put, List.setIfInBounds_toArray, List.set_cons_zero, List.set_cons_succ]
                    refine held_two (i := 7) (j := 13) (oi := ?oi7u153) (oj := ?oi13u153) (by kernel_rfl) ?hi7u153 ?hi13u153 (fun K hK => ?rest7u153) (fun K hK => ?rest13u153)
                    case hi7u153 => (simp only [List.getElem?_toArray, List.getElem?_cons_succ, List.getElem?_cons_zero]; exact rfl)
                    case hi13u153 => (simp only [List.getElem?_toArray, List.getElem?_cons_succ, List.getElem?_cons_zero]; exact rfl)
                    · go_simp
                      go_at_call 19
                      refine (Hput.out _ HV.out).mono ?_
                      rintro e w4 ⟨A2, c2, D2, n2, d2, q2, x2, rfl, hC2, hb4, hor⟩
                      have H4 := Lib.hid (HV.out.trans (hb4.mono HV.out.size))
                      have Hgb : Hid (X.heap.size ≤ w4.heap.size) := Lib.hid H4.out.size
                      have HCy := Lib.hid (hC2.below (bas w4 (.cells #[.slice none 0 0, .slice none 0 0, .int .i64 0] 25)))
                      have HY := Lib.hid (H4.out.alloc H4.out.size (.cells #[.slice none 0 0, .slice none 0 0, .int .i64 0] 25))
                      have Hz := Lib.hid (show (w4.alloc (.cells #[.slice none 0 0, .slice none 0 0, .int .i64 0] 25)).heap[w4.heap.size]? = some (.cells #[.slice none 0 0, .slice none 0 0, .int .i64 0] 25 (0, 0)) from alloc_at rfl)
                      obtain ⟨gb, hgb⟩ : ∃ gb, gb = w4.heap.size := ⟨_, rfl⟩
                      have Hor := Lib.hid (show (fun (Y : World) (D : Option Addr) (n d : Nat) (q x : Int) => ((((putA L T a).1.length : Int) ≤ r ∧ x = 0 ∧ q = ((putA L T a).2.1 : Nat) ∧ IsI Y D n d (putA L T a).2.2 ∧ (n ≠ 0 → ∀ z, D = some z → z.block ≠ gb) ∧ (n ≠ 0 → ∀ z, D = some z → X.heap.size ≤ z.block)) ∨ (¬ ((putA L T a).1.length : Int) ≤ r ∧ x = 80))) (w4.alloc (.cells #[.slice none 0 0, .slice none 0 0, .int .i64 0] 25)) D2 n2 d2 q2 x2 from by
                        rcases hor with ⟨o1, o2, o3, o4, o5⟩ | ⟨o1, o2, _⟩
                        · exact .inl ⟨o1, o2, o3, o4.below (bas _ _), fun h0 z hz => by rw [hgb]; exact Nat.ne_of_lt (IsI.lt o4 h0 z hz), fun h0 z hz => Nat.le_trans HV.out.size (o5 h0 z hz)⟩
                        · exact .inr ⟨o1, o2⟩)
                      clear hC2 hb4 hor
                      try go_simp
                      refine hK _ _ (HS.out _ H4.out) ?_
                      clear hK K hHeld
                      have hHeld := HS.out _ H4.out
                      try simp only [Act.put, List.setIfInBounds_toArray, List.set_cons_zero, List.set_cons_succ]
                      refine wpAnyH_take (i := 8) (oi := ?oi8u154) (v := ?v8u154) ?hi8u154 (by kernel_rfl) (by kernel_rfl) (by kernel_rfl) ?hQ8u154 (Or.inl ⟨?hw8u154, ?hy8u154⟩) hHeld ?rest8u154
                      case hi8u154 => (simp only [List.getElem?_toArray, List.getElem?_cons_succ, List.getElem?_cons_zero]; exact rfl)
                      case hQ8u154 => exact fun _ _ _ h => h
                      case hw8u154 => rfl
                      case hy8u154 => (intro w hSw; (try dsimp only at hSw); go_simp <;> with_reducible rfl)
                      try simp only [Act.put, List.setIfInBounds_toArray, List.set_cons_zero, List.set_cons_succ]
                      refine wpAnyH_take (i := 9) (oi := ?oi9u155) (v := ?v9u155) ?hi9u155 (by kernel_rfl) (by kernel_rfl) (by kernel_rfl) ?hQ9u155 (Or.inl ⟨?hw9u155, ?hy9u155⟩) hHeld ?rest9u155
                      case hi9u155 => (simp only [List.getElem?_toArray, List.getElem?_cons_succ, List.getElem?_cons_zero]; exact rfl)
                      case hQ9u155 => exact fun _ _ _ h => h
                      case hw9u155 => rfl
                      case hy9u155 => (intro w hSw; (try dsimp only at hSw); go_simp <;> with_reducible rfl)
                      try simp only [Act.put, List.setIfInBounds_toArray, List.set_cons_zero, List.set_cons_succ]
                      refine wpAnyH_take (i := 10) (oi := ?oi10u156) (v := ?v10u156) ?hi10u156 (by kernel_rfl) (by kernel_rfl) (by kernel_rfl) ?hQ10u156 (Or.inl ⟨?hw10u156, ?hy10u156⟩) hHeld ?rest10u156
                      case hi10u156 => (simp only [List.getElem?_toArray, List.getElem?_cons_succ, List.getElem?_cons_zero]; exact rfl)
                      case hQ10u156 => exact fun _ _ _ h => h
                      case hw10u156 => rfl
                      case hy10u156 => (intro w hSw; (try dsimp only at hSw); go_simp <;> with_reducible rfl)
                      try simp only [Act.put, List.setIfInBounds_toArray, List.set_cons_zero, List.set_cons_succ]
                      refine wpAnyH_take (i := 11) (oi := ?oi11u157) (v := ?v11u157) ?hi11u157 (by kernel_rfl) (by kernel_rfl) (by kernel_rfl) ?hQ11u157 (Or.inl ⟨?hw11u157, ?hy11u157⟩) hHeld ?rest11u157
                      case hi11u157 => (simp only [List.getElem?_toArray, List.getElem?_cons_succ, List.getElem?_cons_zero]; exact rfl)
                      case hQ11u157 => exact fun _ _ _ h => h
                      case hw11u157 => rfl
                      case hy11u157 => (intro w hSw; (try dsimp only at hSw); go_simp <;> with_reducible rfl)
                      try simp only [Act.put, List.setIfInBounds_toArray, List.set_cons_zero, List.set_cons_succ]
                      refine wpAnyH_take (i := 12) (oi := ?oi12u158) (v := ?v12u158) ?hi12u158 (by kernel_rfl) (by kernel_rfl) (by kernel_rfl) ?hQ12u158 (Or.inl ⟨?hw12u158, ?hy12u158⟩) hHeld ?rest12u158
                      case hi12u158 => (simp only [List.getElem?_toArray, List.getElem?_cons_succ, List.getElem?_cons_zero]; exact rfl)
                      case hQ12u158 => exact fun _ _ _ h => h
                      case hw12u158 => rfl
                      case hy12u158 => (intro w hSw; (try dsimp only at hSw); go_simp <;> with_reducible rfl)
                      try simp only [Act.put, List.setIfInBounds_toArray, List.set_cons_zero, List.set_cons_succ]
                      refine held_one (i := 13) (o := ?oi13u159) (by kernel_rfl) ?hi13u159 (fun K hK => ?rest13u159)
                      case hi13u159 => (simp only [List.getElem?_toArray, List.getElem?_cons_succ, List.getElem?_cons_zero]; exact rfl)
                      go_simp
                      refine hK _ _ (HS.out _ HY.out) ?_
                      clear hK K hHeld
                      have hHeld := HS.out _ HY.out
                      try simp only [Act.put, List.setIfInBounds_toArray, List.set_cons_zero, List.set_cons_succ]
                      rw [← hgb] at Hgb Hz
                      try rw [← hgb]
                      clear hgb
                      generalize w4.alloc (.cells #[.slice none 0 0, .slice none 0 0, .int .i64 0] 25) = Y at *
                      obtain ⟨z0, z1, z2, zl⟩ := open3 Hz.out
                      have zf0 := frozen_of Hz.out 0
                      have zf1 := frozen_of Hz.out 1
                      have zf2 := frozen_of Hz.out 2
                      have hk : Kq gb Y (((Y.setCell ⟨gb, 0, none⟩ (.slice A2 (pRes L T a r).length c2)).setCell ⟨gb, 1, none⟩ (.slice Bg TR.length dg)).setCell ⟨gb, 2, none⟩ (.int .i64 r)) := ((Kq.set Y 0 _).trans (Kq.set _ 1 _)).trans (Kq.set _ 2 _)
                      have h1 := set_block (k := 0) Hz.out (.slice A2 (pRes L T a r).length c2)
                      have h2 := set_block (k := 1) h1 (.slice Bg TR.length dg)
                      have h3 := set_block (k := 2) h2 (.int .i64 r)
                      have HzF : Hid ((((Y.setCell ⟨gb, 0, none⟩ (.slice A2 (pRes L T a r).length c2)).setCell ⟨gb, 1, none⟩ (.slice Bg TR.length dg)).setCell ⟨gb, 2, none⟩ (.int .i64 r)).heap[gb]? = some (.cells #[.slice A2 (pRes L T a r).length c2, .slice Bg TR.length dg, .int .i64 r] 25 (0, 0))) := Lib.hid (by simpa using h3)
                      have HCF := Lib.hid (HCy.out.kq8 hk ⟨_, _, _, _, _, _, Hz.out⟩)
                      have HNF := Lib.hid ((HNg.out.below HY.out).kq9 hk (fun h0 z hz => Nat.ne_of_lt (Nat.lt_of_lt_of_le (IsI.lt HNg.out h0 z hz) Hgb.out)))
                      have HorF := Lib.hid (show (((putA L T a).1.length : Int) ≤ r ∧ x2 = 0 ∧ q2 = ((putA L T a).2.1 : Nat) ∧ IsI (((Y.setCell ⟨gb, 0, none⟩ (.slice A2 (pRes L T a r).length c2)).setCell ⟨gb, 1, none⟩ (.slice Bg TR.length dg)).setCell ⟨gb, 2, none⟩ (.int .i64 r)) D2 n2 d2 (putA L T a).2.2 ∧ (n2 ≠ 0 → ∀ z, D2 = some z → X.heap.size ≤ z.block)) ∨ (¬ ((putA L T a).1.length : Int) ≤ r ∧ x2 = 80) from by
                        rcases Hor.out with ⟨o1, o2, o3, o4, o5, o6⟩ | ⟨o1, o2⟩
                        · exact .inl ⟨o1, o2, o3, o4.kq9 hk o5, o6⟩
                        · exact .inr ⟨o1, o2⟩)
                      have HF := Lib.hid (HY.out.trans (hk.bel.mono Hgb.out))

                      refine held_one (i := 14) (o := ?oi14u160) (by kernel_rfl) ?hi14u160 (fun K hK => ?rest14u160)
                      case hi14u160 => (simp only [List.getElem?_toArray, List.getElem?_cons_succ, List.getElem?_cons_zero]; exact rfl)
                      go_simp
                      refine hK _ _ (HS.out _ HF.out) ?_
                      clear hK K hHeld
                      have hHeld := HS.out _ HF.out
                      try simp only [Act.put, List.setIfInBounds_toArray, List.set_cons_zero, List.set_cons_succ]
                      refine wpAnyH_take (i := 15) (oi := ?oi15u161) (v := ?v15u161) ?hi15u161 (by kernel_rfl) (by kernel_rfl) (by kernel_rfl) ?hQ15u161 (Or.inl ⟨?hw15u161, ?hy15u161⟩) hHeld ?rest15u161
                      case hi15u161 => (simp only [List.getElem?_toArray, List.getElem?_cons_succ, List.getElem?_cons_zero]; exact rfl)
                      case hQ15u161 => exact fun _ _ _ h => h
                      case hw15u161 => rfl
                      case hy15u161 => (intro w hSw; (try dsimp only at hSw); go_simp <;> with_reducible rfl)
                      try simp only [Act.put, List.setIfInBounds_toArray, List.set_cons_zero, List.set_cons_succ]
                      refine wpAnyH_take (i := 16) (oi := ?oi16u162) (v := ?v16u162) ?hi16u162 (by kernel_rfl) (by kernel_rfl) (by kernel_rfl) ?hQ16u162 (Or.inl ⟨?hw16u162, ?hy16u162⟩) hHeld ?rest16u162
                      case hi16u162 => (simp only [List.getElem?_toArray, List.getElem?_cons_succ, List.getElem?_cons_zero]; exact rfl)
                      case hQ16u162 => exact fun _ _ _ h => h
                      case hw16u162 => rfl
                      case hy16u162 => (intro w hSw; (try dsimp only at hSw); go_simp <;> with_reducible rfl)
                      try simp only [Act.put, List.setIfInBounds_toArray, List.set_cons_zero, List.set_cons_succ]
                      refine wpAnyH_take (i := 17) (oi := ?oi17u163) (v := ?v17u163) ?hi17u163 (by kernel_rfl) (by kernel_rfl) (by kernel_rfl) ?hQ17u163 (Or.inl ⟨?hw17u163, ?hy17u163⟩) hHeld ?rest17u163
                      case hi17u163 => (simp only [List.getElem?_toArray, List.getElem?_cons_succ, List.getElem?_cons_zero]; exact rfl)
                      case hQ17u163 => exact fun _ _ _ h => h
                      case hw17u163 => rfl
                      case hy17u163 => (intro w hSw; (try dsimp only at hSw); go_simp <;> with_reducible rfl)
                      try simp only [Act.put, List.setIfInBounds_toArray, List.set_cons_zero, List.set_cons_succ]
                      refine wpAnyH_done (by kernel_rfl) ?_ _
                      clear hk h1 h2 h3 z0 z1 z2 zl zf0 zf1 zf2 hHeld Hor
                      generalize (((Y.setCell ⟨gb, 0, none⟩ (.slice A2 (pRes L T a r).length c2)).setCell ⟨gb, 1, none⟩ (.slice Bg TR.length dg)).setCell ⟨gb, 2, none⟩ (.int .i64 r)) = F at *
                      go_wp2_with fail
                      go_meet
                      exact ⟨gb, D2, n2, d2, q2, x2, rfl, rfl, rfl, rfl, ⟨A2, c2, Bg, dg, HzF.out, HCF.out, HNF.out⟩, Hgb.out, HF.out, HorF.out⟩
                    · go_simp
                      have HY0 := Lib.hid (HV.out.alloc HV.out.size (.cells #[.slice none 0 0, .slice none 0 0, .int .i64 0] 25))
                      refine hK _ _ (HS.out _ HY0.out) ?_
                      clear hK K hHeld
                      have hHeld := HS.out _ HY0.out
                      try simp only [Act.put, List.setIfInBounds_toArray, List.set_cons_zero, List.set_cons_succ]
                      have Hz0 := Lib.hid (show (V.alloc (.cells #[.slice none 0 0, .slice none 0 0, .int .i64 0] 25)).heap[V.heap.size]? = some (.cells #[.slice none 0 0, .slice none 0 0, .int .i64 0] 25 (0, 0)) from alloc_at rfl)
                      have Hgb : Hid (X.heap.size ≤ V.heap.size) := Lib.hid HV.out.size
                      have Hgl := Lib.hid (block_lt Hz0.out)
                      generalize V.alloc (.cells #[.slice none 0 0, .slice none 0 0, .int .i64 0] 25) = V2 at *
                      generalize V.heap.size = gb at *
                      refine held_one (i := 7) (o := ?oi7u164) (by kernel_rfl) ?hi7u164 (fun K hK => ?rest7u164)
                      case hi7u164 => (simp only [List.getElem?_toArray, List.getElem?_cons_succ, List.getElem?_cons_zero]; exact rfl)
                      go_simp
                      go_at_call 19
                      refine (Hput.out _ HY0.out).mono ?_
                      rintro e w4 ⟨A2, c2, D2, n2, d2, q2, x2, rfl, hC2, hb4, hor⟩
                      have HY := Lib.hid (HY0.out.trans (hb4.mono HY0.out.size))
                      have Hz := Lib.hid ((hb4.block gb Hgl.out).trans Hz0.out)
                      have HCy := Lib.hid hC2
                      have Hor := Lib.hid (show (fun (Y : World) (D : Option Addr) (n d : Nat) (q x : Int) => ((((putA L T a).1.length : Int) ≤ r ∧ x = 0 ∧ q = ((putA L T a).2.1 : Nat) ∧ IsI Y D n d (putA L T a).2.2 ∧ (n ≠ 0 → ∀ z, D = some z → z.block ≠ gb) ∧ (n ≠ 0 → ∀ z, D = some z → X.heap.size ≤ z.block)) ∨ (¬ ((putA L T a).1.length : Int) ≤ r ∧ x = 80))) w4 D2 n2 d2 q2 x2 from by
                        rcases hor with ⟨o1, o2, o3, o4, o5⟩ | ⟨o1, o2, _⟩
                        · exact .inl ⟨o1, o2, o3, o4, fun h0 z hz => Nat.ne_of_gt (Nat.lt_of_lt_of_le Hgl.out (o5 h0 z hz)), fun h0 z hz => Nat.le_trans HY0.out.size (o5 h0 z hz)⟩
                        · exact .inr ⟨o1, o2⟩)
                      clear hC2 hb4 hor
                      try go_simp
                      refine hK _ _ (HS.out _ HY.out) ?_
                      clear hK K hHeld
                      have hHeld := HS.out _ HY.out
                      try simp only [Act.put, List.setIfInBounds_toArray, List.set_cons_zero, List.set_cons_succ]
                      refine wpAnyH_take (i := 8) (oi := ?oi8u165) (v := ?v8u165) ?hi8u165 (by kernel_rfl) (by kernel_rfl) (by kernel_rfl) ?hQ8u165 (Or.inl ⟨?hw8u165, ?hy8u165⟩) hHeld ?rest8u165
                      case hi8u165 => (simp only [List.getElem?_toArray, List.getElem?_cons_succ, List.getElem?_cons_zero]; exact rfl)
                      case hQ8u165 => exact fun _ _ _ h => h
                      case hw8u165 => rfl
                      case hy8u165 => (intro w hSw; (try dsimp only at hSw); go_simp <;> with_reducible rfl)
                      try simp only [Act.put, List.setIfInBounds_toArray, List.set_cons_zero, List.set_cons_succ]
                      refine wpAnyH_take (i := 9) (oi := ?oi9u166) (v := ?v9u166) ?hi9u166 (by kernel_rfl) (by kernel_rfl) (by kernel_rfl) ?hQ9u166 (Or.inl ⟨?hw9u166, ?hy9u166⟩) hHeld ?rest9u166
                      case hi9u166 => (simp only [List.getElem?_toArray, List.getElem?_cons_succ, List.getElem?_cons_zero]; exact rfl)
                      case hQ9u166 => exact fun _ _ _ h => h
                      case hw9u166 => rfl
                      case hy9u166 => (intro w hSw; (try dsimp only at hSw); go_simp <;> with_reducible rfl)
                      try simp only [Act.put, List.setIfInBounds_toArray, List.set_cons_zero, List.set_cons_succ]
                      refine wpAnyH_take (i := 10) (oi := ?oi10u167) (v := ?v10u167) ?hi10u167 (by kernel_rfl) (by kernel_rfl) (by kernel_rfl) ?hQ10u167 (Or.inl ⟨?hw10u167, ?hy10u167⟩) hHeld ?rest10u167
                      case hi10u167 => (simp only [List.getElem?_toArray, List.getElem?_cons_succ, List.getElem?_cons_zero]; exact rfl)
                      case hQ10u167 => exact fun _ _ _ h => h
                      case hw10u167 => rfl
                      case hy10u167 => (intro w hSw; (try dsimp only at hSw); go_simp <;> with_reducible rfl)
                      try simp only [Act.put, List.setIfInBounds_toArray, List.set_cons_zero, List.set_cons_succ]
                      refine wpAnyH_take (i := 11) (oi := ?oi11u168) (v := ?v11u168) ?hi11u168 (by kernel_rfl) (by kernel_rfl) (by kernel_rfl) ?hQ11u168 (Or.inl ⟨?hw11u168, ?hy11u168⟩) hHeld ?rest11u168
                      case hi11u168 => (simp only [List.getElem?_toArray, List.getElem?_cons_succ, List.getElem?_cons_zero]; exact rfl)
                      case hQ11u168 => exact fun _ _ _ h => h
                      case hw11u168 => rfl
                      case hy11u168 => (intro w hSw; (try dsimp only at hSw); go_simp <;> with_reducible rfl)
                      try simp only [Act.put, List.setIfInBounds_toArray, List.set_cons_zero, List.set_cons_succ]
                      refine wpAnyH_take (i := 12) (oi := ?oi12u169) (v := ?v12u169) ?hi12u169 (by kernel_rfl) (by kernel_rfl) (by kernel_rfl) ?hQ12u169 (Or.inl ⟨?hw12u169, ?hy12u169⟩) hHeld ?rest12u169
                      case hi12u169 => (simp only [List.getElem?_toArray, List.getElem?_cons_succ, List.getElem?_cons_zero]; exact rfl)
                      case hQ12u169 => exact fun _ _ _ h => h
                      case hw12u169 => rfl
                      case hy12u169 => (intro w hSw; (try dsimp only at hSw); go_simp <;> with_reducible rfl)
                      try simp only [Act.put, List.setIfInBounds_toArray, List.set_cons_zero, List.set_cons_succ]
                      generalize w4 = Y at *
                      obtain ⟨z0, z1, z2, zl⟩ := open3 Hz.out
                      have zf0 := frozen_of Hz.out 0
                      have zf1 := frozen_of Hz.out 1
                      have zf2 := frozen_of Hz.out 2
                      have hk : Kq gb Y (((Y.setCell ⟨gb, 0, none⟩ (.slice A2 (pRes L T a r).length c2)).setCell ⟨gb, 1, none⟩ (.slice Bg TR.length dg)).setCell ⟨gb, 2, none⟩ (.int .i64 r)) := ((Kq.set Y 0 _).trans (Kq.set _ 1 _)).trans (Kq.set _ 2 _)
                      have h1 := set_block (k := 0) Hz.out (.slice A2 (pRes L T a r).length c2)
                      have h2 := set_block (k := 1) h1 (.slice Bg TR.length dg)
                      have h3 := set_block (k := 2) h2 (.int .i64 r)
                      have HzF : Hid ((((Y.setCell ⟨gb, 0, none⟩ (.slice A2 (pRes L T a r).length c2)).setCell ⟨gb, 1, none⟩ (.slice Bg TR.length dg)).setCell ⟨gb, 2, none⟩ (.int .i64 r)).heap[gb]? = some (.cells #[.slice A2 (pRes L T a r).length c2, .slice Bg TR.length dg, .int .i64 r] 25 (0, 0))) := Lib.hid (by simpa using h3)
                      have HCF := Lib.hid (HCy.out.kq8 hk ⟨_, _, _, _, _, _, Hz.out⟩)
                      have HNF := Lib.hid ((HNg.out.below HY.out).kq9 hk (fun h0 z hz => Nat.ne_of_lt (Nat.lt_of_lt_of_le (IsI.lt HNg.out h0 z hz) Hgb.out)))
                      have HorF := Lib.hid (show (((putA L T a).1.length : Int) ≤ r ∧ x2 = 0 ∧ q2 = ((putA L T a).2.1 : Nat) ∧ IsI (((Y.setCell ⟨gb, 0, none⟩ (.slice A2 (pRes L T a r).length c2)).setCell ⟨gb, 1, none⟩ (.slice Bg TR.length dg)).setCell ⟨gb, 2, none⟩ (.int .i64 r)) D2 n2 d2 (putA L T a).2.2 ∧ (n2 ≠ 0 → ∀ z, D2 = some z → X.heap.size ≤ z.block)) ∨ (¬ ((putA L T a).1.length : Int) ≤ r ∧ x2 = 80) from by
                        rcases Hor.out with ⟨o1, o2, o3, o4, o5, o6⟩ | ⟨o1, o2⟩
                        · exact .inl ⟨o1, o2, o3, o4.kq9 hk o5, o6⟩
                        · exact .inr ⟨o1, o2⟩)
                      have HF := Lib.hid (HY.out.trans (hk.bel.mono Hgb.out))

                      refine held_one (i := 14) (o := ?oi14u170) (by kernel_rfl) ?hi14u170 (fun K hK => ?rest14u170)
                      case hi14u170 => (simp only [List.getElem?_toArray, List.getElem?_cons_succ, List.getElem?_cons_zero]; exact rfl)
                      go_simp
                      refine hK _ _ (HS.out _ HF.out) ?_
                      clear hK K hHeld
                      have hHeld := HS.out _ HF.out
                      try simp only [Act.put, List.setIfInBounds_toArray, List.set_cons_zero, List.set_cons_succ]
                      refine wpAnyH_take (i := 15) (oi := ?oi15u171) (v := ?v15u171) ?hi15u171 (by kernel_rfl) (by kernel_rfl) (by kernel_rfl) ?hQ15u171 (Or.inl ⟨?hw15u171, ?hy15u171⟩) hHeld ?rest15u171
                      case hi15u171 => (simp only [List.getElem?_toArray, List.getElem?_cons_succ, List.getElem?_cons_zero]; exact rfl)
                      case hQ15u171 => exact fun _ _ _ h => h
                      case hw15u171 => rfl
                      case hy15u171 => (intro w hSw; (try dsimp only at hSw); go_simp <;> with_reducible rfl)
                      try simp only [Act.put, List.setIfInBounds_toArray, List.set_cons_zero, List.set_cons_succ]
                      refine wpAnyH_take (i := 16) (oi := ?oi16u172) (v := ?v16u172) ?hi16u172 (by kernel_rfl) (by kernel_rfl) (by kernel_rfl) ?hQ16u172 (Or.inl ⟨?hw16u172, ?hy16u172⟩) hHeld ?rest16u172
                      case hi16u172 => (simp only [List.getElem?_toArray, List.getElem?_cons_succ, List.getElem?_cons_zero]; exact rfl)
                      case hQ16u172 => exact fun _ _ _ h => h
                      case hw16u172 => rfl
                      case hy16u172 => (intro w hSw; (try dsimp only at hSw); go_simp <;> with_reducible rfl)
                      try simp only [Act.put, List.setIfInBounds_toArray, List.set_cons_zero, List.set_cons_succ]
                      refine wpAnyH_take (i := 17) (oi := ?oi17u173) (v := ?v17u173) ?hi17u173 (by kernel_rfl) (by kernel_rfl) (by kernel_rfl) ?hQ17u173 (Or.inl ⟨?hw17u173, ?hy17u173⟩) hHeld ?rest17u173
                      case hi17u173 => (simp only [List.getElem?_toArray, List.getElem?_cons_succ, List.getElem?_cons_zero]; exact rfl)
                      case hQ17u173 => exact fun _ _ _ h => h
                      case hw17u173 => rfl
                      case hy17u173 => (intro w hSw; (try dsimp only at hSw); go_simp <;> with_reducible rfl)
                      try simp only [Act.put, List.setIfInBounds_toArray, List.set_cons_zero, List.set_cons_succ]
                      refine wpAnyH_done (by kernel_rfl) ?_ _
                      clear hk h1 h2 h3 z0 z1 z2 zl zf0 zf1 zf2 hHeld Hor
                      generalize (((Y.setCell ⟨gb, 0, none⟩ (.slice A2 (pRes L T a r).length c2)).setCell ⟨gb, 1, none⟩ (.slice Bg TR.length dg)).setCell ⟨gb, 2, none⟩ (.int .i64 r)) = F at *
                      go_wp2_with fail
                      go_meet
                      exact ⟨gb, D2, n2, d2, q2, x2, rfl, rfl, rfl, rfl, ⟨A2, c2, Bg, dg, HzF.out, HCF.out, HNF.out⟩, Hgb.out, HF.out, HorF.out⟩
                case rest =>
                  obtain ⟨gx, D1, p1, e1, q1, x1, rfl, rfl, rfl, rfl, hBx, hgx, hbn, hor⟩ := hcut
                  have hI2 := HI1.out.below hbn
                  have hM2 := HM1.out.below hbn
                  obtain ⟨Ax, cx, Bx, dx, ⟨hCx, hNx⟩, hYx⟩ := hBx.open
                  obtain ⟨y0, y1, y2, yl⟩ := hYx _ (Below.refl _ _)
                  obtain ⟨v0, v1, u0, u1, u2, ul, f0, f1, f2⟩ := hI2.heap.rb.open
                  have hle : L.length ≤ (pRes L T a r).length := Hs3.out.le
                  obtain ⟨hst, hkq⟩ := hI2.store n0 nw Hok.out hCx hNx Ok3.out hle Hs3.out
                  have hM3 := hM2.kq hkq hmh
                  have HM3 := Lib.hid hM3
                  rcases hor with ⟨o1, o2, o3, o4, o5⟩ | ⟨o1, o2⟩
                  · subst o2
                    obtain ⟨w1', w2', _⟩ := Hpl.out o1
                    have HI4 := Lib.hid (show LInv w g0 gh l tr r _ (pRes L T a r) TR (ds ++ ds3) (putA L T a).2.2 D1 p1 e1 from ⟨o4.kq9 hkq (fun h0 z hz => Nat.ne_of_gt (Nat.lt_of_lt_of_le hgX (o5 h0 z hz))), fun h0 z hz => Nat.ne_of_gt (Nat.lt_of_lt_of_le hgX (o5 h0 z hz)), w2', hst.ok, w1', hst.hst, hst.heap, hst.old, hst.low⟩)
                    clear hI2 hM2 hBx hCx hNx hYx hst hkq hM3 o1 o4 o5 w1' w2' hle
                    generalize pRes L T a r = L3 at *
                    generalize putA L T a = pt at *
                    go_wp2
                    go_meet
                    exact ⟨L3, ds ++ ds3, pt.2.2, D1, p1, e1, rfl, HI4.out, HM3.out⟩
                  · subst o2
                    have HI4 := Lib.hid hst
                    clear hI2 hM2 hBx hCx hNx hYx hst hkq hM3 o1 hle
                    generalize pRes L T a r = L3 at *
                    generalize putA L T a = pt at *
                    go_wp2
                    go_meet
                    exact ⟨L3, ds ++ ds3, a, D, pn, e, rfl, HI4.out, HM3.out⟩
            case rest =>
              clear HI1 HM1
              obtain ⟨L, ds, a, D, pn, e, rfl, hI1, hM1⟩ := hcut
              have HI1 := Lib.hid hI1
              have HM1 := Lib.hid hM1
              clear hI1 hM1 Hcd
              generalize wc = X at *
              go_upto_region 13 with fail
              obtain ⟨ok3, len3, ds3, hs3⟩ := uni_ok HI1.out.ok o.a o.b
              have Ok3 := Lib.hid ok3
              have Hs3 := Lib.hid hs3
              have hgX := HI1.out.heap.lt
              have Hcall := Lib.hid (fun (wx : World) (A B : Option Addr) (c d : Nat) (hC : IsC wx A L.length c L) (hN : IsI wx B TR.length d TR) => uni8 (r := r) hC hN HI1.out.ok o.a o.b)
              clear ok3 hs3
              generalize (uniZ L TR o.a o.b).isSome = isz at *
              obtain ⟨LU, hLU⟩ : ∃ LU, (uRes L TR o.a o.b).1 = LU := ⟨_, rfl⟩
              obtain ⟨TU, hTU⟩ : ∃ TU, (uRes L TR o.a o.b).2 = TU := ⟨_, rfl⟩
              rw [hLU, hTU] at Ok3 Hs3
              rw [hLU] at len3
              simp only [hLU, hTU] at Hcall
              have Len3 := Lib.hid len3
              clear hLU hTU len3
              go_cut [14, 15] from 67 to 81 (fun v14 v15 wx => ∃ gy : Nat, v14 = .pointer (some ⟨gy, 0, none⟩) ∧ v15 = .bool isz ∧ HB wx gy LU TU r ∧ X.heap.size ≤ gy ∧ Below X.heap.size X wx)
              case first =>
                obtain ⟨Ag, cg, Bg, dg, ⟨hCg, hNg⟩, hYg⟩ := HI1.out.heap.open
                have hS : ∀ w', Below X.heap.size X w' → w'.cell? ⟨gh, 0, none⟩ = some (.slice Ag L.length cg) ∧ w'.cell? ⟨gh, 1, none⟩ = some (.slice Bg TR.length dg) ∧ w'.cell? ⟨gh, 2, none⟩ = some (.int .i64 r) ∧ w'.cell? ⟨bo, oo + i * 3 + 1, none⟩ = some (.int .i64 o.a) ∧ w'.cell? ⟨bo, oo + i * 3 + 2, none⟩ = some (.int .i64 o.b) := fun w' hb => by
                  obtain ⟨p0, p1, p2, _⟩ := hYg w' hb
                  exact ⟨p0, p1, p2, ((HI1.out.low.trans (hb.mono HI1.out.low.size)).cell (p := ⟨bo, oo + i * 3 + 1, none⟩) Hbo.out).trans E1.out, ((HI1.out.low.trans (hb.mono HI1.out.low.size)).cell (p := ⟨bo, oo + i * 3 + 2, none⟩) Hbo.out).trans E2.out⟩
                have hz9 : (i : Int) < (nq : Int) := by omega
                refine wp_region_held_drew (S := fun w' => w'.cell? ⟨gh, 0, none⟩ = some (.slice Ag L.length cg) ∧ w'.cell? ⟨gh, 1, none⟩ = some (.slice Bg TR.length dg) ∧ w'.cell? ⟨gh, 2, none⟩ = some (.int .i64 r) ∧ w'.cell? ⟨bo, oo + i * 3 + 1, none⟩ = some (.int .i64 o.a) ∧ w'.cell? ⟨bo, oo + i * 3 + 2, none⟩ = some (.int .i64 o.b)) (by kernel_rfl) ?gs13 ?gr13
                case gs13 => exact hS _ (Below.refl _ _).drew
                case gr13 =>
                  intro hHeld
                  have HS := Lib.hid hS
                  have HCg := Lib.hid hCg
                  have HNg := Lib.hid hNg
                  have HV : Hid (Below X.heap.size X X.drew) := Lib.hid ((Below.refl _ _).drew)
                  clear hS hYg hCg hNg hgX
                  generalize X.drew = V at *

                  refine wpAnyH_take (i := 0) (oi := ?oi0u174) (v := ?v0u174) ?hi0u174 (by kernel_rfl) (by kernel_rfl) (by kernel_rfl) ?hQ0u174 (Or.inl ⟨?hw0u174, ?hy0u174⟩) hHeld ?rest0u174
                  case hi0u174 => (simp only [List.getElem?_toArray, List.getElem?_cons_succ, List.getElem?_cons_zero]; exact rfl)
                  case hQ0u174 => exact fun _ _ _ h => h
                  case hw0u174 => rfl
                  case hy0u174 => (intro w hSw; (try dsimp only at hSw); go_simp <;> with_reducible rfl)
                  try simp only [Act.put, List.setIfInBounds_toArray, List.set_cons_zero, List.set_cons_succ]
                  refine wpAnyH_take (i := 1) (oi := ?oi1u175) (v := ?v1u175) ?hi1u175 (by kernel_rfl) (by kernel_rfl) (by kernel_rfl) ?hQ1u175 (Or.inl ⟨?hw1u175, ?hy1u175⟩) hHeld ?rest1u175
                  case hi1u175 => (simp only [List.getElem?_toArray, List.getElem?_cons_succ, List.getElem?_cons_zero]; exact rfl)
                  case hQ1u175 => exact fun _ _ _ h => h
                  case hw1u175 => rfl
                  case hy1u175 => (intro w hSw; (try dsimp only at hSw); go_simp <;> with_reducible rfl)
                  try simp only [Act.put, List.setIfInBounds_toArray, List.set_cons_zero, List.set_cons_succ]
                  refine wpAnyH_take (i := 2) (oi := ?oi2u176) (v := ?v2u176) ?hi2u176 (by kernel_rfl) (by kernel_rfl) (by kernel_rfl) ?hQ2u176 (Or.inl ⟨?hw2u176, ?hy2u176⟩) hHeld ?rest2u176
                  case hi2u176 => (simp only [List.getElem?_toArray, List.getElem?_cons_succ, List.getElem?_cons_zero]; exact rfl)
                  case hQ2u176 => exact fun _ _ _ h => h
                  case hw2u176 => rfl
                  case hy2u176 => (intro w hSw; (try dsimp only at hSw); go_simp <;> with_reducible rfl)
                  try simp only [Act.put, List.setIfInBounds_toArray, List.set_cons_zero, List.set_cons_succ]
                  refine wpAnyH_take (i := 3) (oi := ?oi3u177) (v := ?v3u177) ?hi3u177 (by kernel_rfl) (by kernel_rfl) (by kernel_rfl) ?hQ3u177 (Or.inl ⟨?hw3u177, ?hy3u177⟩) hHeld ?rest3u177
                  case hi3u177 => (simp only [List.getElem?_toArray, List.getElem?_cons_succ, List.getElem?_cons_zero]; exact rfl)
                  case hQ3u177 => exact fun _ _ _ h => h
                  case hw3u177 => rfl
                  case hy3u177 => (intro w hSw; (try dsimp only at hSw); go_simp <;> with_reducible rfl)
                  try simp only [Act.put, List.setIfInBounds_toArray, List.set_cons_zero, List.set_cons_succ]
                  refine wpAnyH_take (i := 4) (oi := ?oi4u178) (v := ?v4u178) ?hi4u178 (by kernel_rfl) (by kernel_rfl) (by kernel_rfl) ?hQ4u178 (Or.inl ⟨?hw4u178, ?hy4u178⟩) hHeld ?rest4u178
                  case hi4u178 => (simp only [List.getElem?_toArray, List.getElem?_cons_succ, List.getElem?_cons_zero]; exact rfl)
                  case hQ4u178 => exact fun _ _ _ h => h
                  case hw4u178 => rfl
                  case hy4u178 => (intro w hSw; (try dsimp only at hSw); go_simp <;> with_reducible rfl)
                  try simp only [Act.put, List.setIfInBounds_toArray, List.set_cons_zero, List.set_cons_succ]
                  refine wpAnyH_take (i := 5) (oi := ?oi5u179) (v := ?v5u179) ?hi5u179 (by kernel_rfl) (by kernel_rfl) (by kernel_rfl) ?hQ5u179 (Or.inl ⟨?hw5u179, ?hy5u179⟩) hHeld ?rest5u179
                  case hi5u179 => (simp only [List.getElem?_toArray, List.getElem?_cons_succ, List.getElem?_cons_zero]; exact rfl)
                  case hQ5u179 => exact fun _ _ _ h => h
                  case hw5u179 => rfl
                  case hy5u179 => (intro w hSw; (try dsimp only at hSw); go_simp <;> with_reducible rfl)
                  try simp only [Act.put, List.setIfInBounds_toArray, List.set_cons_zero, List.set_cons_succ]
                  refine wpAnyH_take (i := 6) (oi := ?oi6u180) (v := ?v6u180) ?hi6u180 (by kernel_rfl) (by kernel_rfl) (by kernel_rfl) ?hQ6u180 (Or.inl ⟨?hw6u180, ?hy6u180⟩) hHeld ?rest6u180
                  case hi6u180 => (simp only [List.getElem?_toArray, List.getElem?_cons_succ, List.getElem?_cons_zero]; exact rfl)
                  case hQ6u180 => exact fun _ _ _ h => h
                  case hw6u180 => rfl
                  case hy6u180 => (intro w hSw; (try dsimp only at hSw); go_simp <;> with_reducible rfl)
                  try simp only [Act.put, List.setIfInBounds_toArray, List.set_cons_zero, List.set_cons_succ]
                  refine wpAnyH_take (i := 7) (oi := ?oi7u181) (v := ?v7u181) ?hi7u181 (by kernel_rfl) (by kernel_rfl) (by kernel_rfl) ?hQ7u181 (Or.inl ⟨?hw7u181, ?hy7u181⟩) hHeld ?rest7u181
                  case hi7u181 => (simp only [List.getElem?_toArray, List.getElem?_cons_succ, List.getElem?_cons_zero]; exact rfl)
                  case hQ7u181 => exact fun _ _ _ h => h
                  case hw7u181 => rfl
                  case hy7u181 => (intro w hSw; (try dsimp only at hSw); go_simp <;> with_reducible rfl)
                  try simp only [Act.put, List.setIfInBounds_toArray, List.set_cons_zero, List.set_cons_succ]
                  refine wpAnyH_take (i := 8) (oi := ?oi8u182) (v := ?v8u182) ?hi8u182 (by kernel_rfl) (by kernel_rfl) (by kernel_rfl) ?hQ8u182 (Or.inl ⟨?hw8u182, ?hy8u182⟩) hHeld ?rest8u182
                  case hi8u182 => (simp only [List.getElem?_toArray, List.getElem?_cons_succ, List.getElem?_cons_zero]; exact rfl)
                  case hQ8u182 => exact fun _ _ _ h => h
                  case hw8u182 => rfl
                  case hy8u182 => (intro w hSw; (try dsimp only at hSw); go_simp <;> with_reducible rfl)
                  try simp only [Act.put, List.setIfInBounds_toArray, List.set_cons_zero, List.set_cons_succ]
                  refine wpAnyH_take (i := 9) (oi := ?oi9u183) (v := ?v9u183) ?hi9u183 (by kernel_rfl) (by kernel_rfl) (by kernel_rfl) ?hQ9u183 (Or.inl ⟨?hw9u183, ?hy9u183⟩) hHeld ?rest9u183
                  case hi9u183 => (simp only [List.getElem?_toArray, List.getElem?_cons_succ, List.getElem?_cons_zero]; exact rfl)
                  case hQ9u183 => exact fun _ _ _ h => h
                  case hw9u183 => rfl
                  case hy9u183 => (intro w hSw; (try dsimp only at hSw); go_simp <;> with_reducible rfl)
                  try simp only [Act.put, List.setIfInBounds_toArray, List.set_cons_zero, List.set_cons_succ]
                  refine wpAnyH_take (i := 10) (oi := ?oi10u184) (v := ?v10u184) ?hi10u184 (by kernel_rfl) (by kernel_rfl) (by kernel_rfl) ?hQ10u184 (Or.inl ⟨?hw10u184, ?hy10u184⟩) hHeld ?rest10u184
                  case hi10u184 => (simp only [List.getElem?_toArray, List.getElem?_cons_succ, List.getElem?_cons_zero]; exact rfl)
                  case hQ10u184 => exact fun _ _ _ h => h
                  case hw10u184 => rfl
                  case hy10u184 => (intro w hSw; (try dsimp only at hSw); go_simp <;> with_reducible rfl)
                  try simp only [Act.put, List.setIfInBounds_toArray, List.set_cons_zero, List.set_cons_succ]
                  refine held_two (i := 11) (j := 15) (oi := ?oi11u185) (oj := ?oi15u185) (by kernel_rfl) ?hi11u185 ?hi15u185 (fun K hK => ?rest11u185) (fun K hK => ?rest15u185)
                  case hi11u185 => (simp only [List.getElem?_toArray, List.getElem?_cons_succ, List.getElem?_cons_zero]; exact rfl)
                  case hi15u185 => (simp only [List.getElem?_toArray, List.getElem?_cons_succ, List.getElem?_cons_zero]; exact rfl)
                  · go_simp
                    go_at_call 23
                    refine (Hcall.out _ _ _ _ _ (HCg.out.below HV.out) (HNg.out.below HV.out)).mono ?_
                    rintro e w4 ⟨A2, c2, B2, d2, rfl, hC2, hN2, hb4, hor⟩
                    have H4 := Lib.hid (HV.out.trans (hb4.mono HV.out.size))
                    have Hgb : Hid (X.heap.size ≤ w4.heap.size) := Lib.hid H4.out.size
                    have HCy := Lib.hid (hC2.below (bas w4 (.cells #[.slice none 0 0, .slice none 0 0, .int .i64 0] 25)))
                    have HNy := Lib.hid (hN2.below (bas w4 (.cells #[.slice none 0 0, .slice none 0 0, .int .i64 0] 25)))
                    have HY := Lib.hid (H4.out.alloc H4.out.size (.cells #[.slice none 0 0, .slice none 0 0, .int .i64 0] 25))
                    have Hz := Lib.hid (show (w4.alloc (.cells #[.slice none 0 0, .slice none 0 0, .int .i64 0] 25)).heap[w4.heap.size]? = some (.cells #[.slice none 0 0, .slice none 0 0, .int .i64 0] 25 (0, 0)) from alloc_at rfl)
                    have Sep := Lib.hid (fun h0 z hz => Nat.ne_of_lt (IsI.lt hN2 h0 z hz))
                    clear hC2 hN2 hb4 hor
                    try go_simp
                    refine hK _ _ (HS.out _ H4.out) ?_
                    clear hK K hHeld
                    have hHeld := HS.out _ H4.out
                    try simp only [Act.put, List.setIfInBounds_toArray, List.set_cons_zero, List.set_cons_succ]
                    refine wpAnyH_take (i := 12) (oi := ?oi12u186) (v := ?v12u186) ?hi12u186 (by kernel_rfl) (by kernel_rfl) (by kernel_rfl) ?hQ12u186 (Or.inl ⟨?hw12u186, ?hy12u186⟩) hHeld ?rest12u186
                    case hi12u186 => (simp only [List.getElem?_toArray, List.getElem?_cons_succ, List.getElem?_cons_zero]; exact rfl)
                    case hQ12u186 => exact fun _ _ _ h => h
                    case hw12u186 => rfl
                    case hy12u186 => (intro w hSw; (try dsimp only at hSw); go_simp <;> with_reducible rfl)
                    try simp only [Act.put, List.setIfInBounds_toArray, List.set_cons_zero, List.set_cons_succ]
                    refine wpAnyH_take (i := 13) (oi := ?oi13u187) (v := ?v13u187) ?hi13u187 (by kernel_rfl) (by kernel_rfl) (by kernel_rfl) ?hQ13u187 (Or.inl ⟨?hw13u187, ?hy13u187⟩) hHeld ?rest13u187
                    case hi13u187 => (simp only [List.getElem?_toArray, List.getElem?_cons_succ, List.getElem?_cons_zero]; exact rfl)
                    case hQ13u187 => exact fun _ _ _ h => h
                    case hw13u187 => rfl
                    case hy13u187 => (intro w hSw; (try dsimp only at hSw); go_simp <;> with_reducible rfl)
                    try simp only [Act.put, List.setIfInBounds_toArray, List.set_cons_zero, List.set_cons_succ]
                    refine wpAnyH_take (i := 14) (oi := ?oi14u188) (v := ?v14u188) ?hi14u188 (by kernel_rfl) (by kernel_rfl) (by kernel_rfl) ?hQ14u188 (Or.inl ⟨?hw14u188, ?hy14u188⟩) hHeld ?rest14u188
                    case hi14u188 => (simp only [List.getElem?_toArray, List.getElem?_cons_succ, List.getElem?_cons_zero]; exact rfl)
                    case hQ14u188 => exact fun _ _ _ h => h
                    case hw14u188 => rfl
                    case hy14u188 => (intro w hSw; (try dsimp only at hSw); go_simp <;> with_reducible rfl)
                    try simp only [Act.put, List.setIfInBounds_toArray, List.set_cons_zero, List.set_cons_succ]
                    refine held_one (i := 15) (o := ?oi15u189) (by kernel_rfl) ?hi15u189 (fun K hK => ?rest15u189)
                    case hi15u189 => (simp only [List.getElem?_toArray, List.getElem?_cons_succ, List.getElem?_cons_zero]; exact rfl)
                    go_simp
                    refine hK _ _ (HS.out _ HY.out) ?_
                    clear hK K hHeld
                    have hHeld := HS.out _ HY.out
                    try simp only [Act.put, List.setIfInBounds_toArray, List.set_cons_zero, List.set_cons_succ]
                    generalize w4.alloc (.cells #[.slice none 0 0, .slice none 0 0, .int .i64 0] 25) = Y at *
                    generalize w4.heap.size = gb at *
                    obtain ⟨z0, z1, z2, zl⟩ := open3 Hz.out
                    have zf0 := frozen_of Hz.out 0
                    have zf1 := frozen_of Hz.out 1
                    have zf2 := frozen_of Hz.out 2
                    have hk : Kq gb Y (((Y.setCell ⟨gb, 0, none⟩ (.slice A2 LU.length c2)).setCell ⟨gb, 1, none⟩ (.slice B2 TU.length d2)).setCell ⟨gb, 2, none⟩ (.int .i64 r)) := ((Kq.set Y 0 _).trans (Kq.set _ 1 _)).trans (Kq.set _ 2 _)
                    have h1 := set_block (k := 0) Hz.out (.slice A2 LU.length c2)
                    have h2 := set_block (k := 1) h1 (.slice B2 TU.length d2)
                    have h3 := set_block (k := 2) h2 (.int .i64 r)
                    have HzF : Hid ((((Y.setCell ⟨gb, 0, none⟩ (.slice A2 LU.length c2)).setCell ⟨gb, 1, none⟩ (.slice B2 TU.length d2)).setCell ⟨gb, 2, none⟩ (.int .i64 r)).heap[gb]? = some (.cells #[.slice A2 LU.length c2, .slice B2 TU.length d2, .int .i64 r] 25 (0, 0))) := Lib.hid (by simpa using h3)
                    have HCF := Lib.hid (HCy.out.kq8 hk ⟨_, _, _, _, _, _, Hz.out⟩)
                    have HNF := Lib.hid (HNy.out.kq9 hk Sep.out)
                    have HF := Lib.hid (HY.out.trans (hk.bel.mono Hgb.out))

                    refine held_one (i := 16) (o := ?oi16u190) (by kernel_rfl) ?hi16u190 (fun K hK => ?rest16u190)
                    case hi16u190 => (simp only [List.getElem?_toArray, List.getElem?_cons_succ, List.getElem?_cons_zero]; exact rfl)
                    go_simp
                    refine hK _ _ (HS.out _ HF.out) ?_
                    clear hK K hHeld
                    have hHeld := HS.out _ HF.out
                    try simp only [Act.put, List.setIfInBounds_toArray, List.set_cons_zero, List.set_cons_succ]
                    refine wpAnyH_take (i := 17) (oi := ?oi17u191) (v := ?v17u191) ?hi17u191 (by kernel_rfl) (by kernel_rfl) (by kernel_rfl) ?hQ17u191 (Or.inl ⟨?hw17u191, ?hy17u191⟩) hHeld ?rest17u191
                    case hi17u191 => (simp only [List.getElem?_toArray, List.getElem?_cons_succ, List.getElem?_cons_zero]; exact rfl)
                    case hQ17u191 => exact fun _ _ _ h => h
                    case hw17u191 => rfl
                    case hy17u191 => (intro w hSw; (try dsimp only at hSw); go_simp <;> with_reducible rfl)
                    try simp only [Act.put, List.setIfInBounds_toArray, List.set_cons_zero, List.set_cons_succ]
                    refine wpAnyH_done (by kernel_rfl) ?_ _
                    clear hk h1 h2 h3 z0 z1 z2 zl zf0 zf1 zf2 hHeld
                    generalize (((Y.setCell ⟨gb, 0, none⟩ (.slice A2 LU.length c2)).setCell ⟨gb, 1, none⟩ (.slice B2 TU.length d2)).setCell ⟨gb, 2, none⟩ (.int .i64 r)) = F at *
                    go_wp2_with fail
                    go_meet
                    exact ⟨gb, rfl, rfl, ⟨A2, c2, B2, d2, HzF.out, HCF.out, HNF.out⟩, Hgb.out, HF.out⟩
                  · go_simp
                    have HY0 := Lib.hid (HV.out.alloc HV.out.size (.cells #[.slice none 0 0, .slice none 0 0, .int .i64 0] 25))
                    refine hK _ _ (HS.out _ HY0.out) ?_
                    clear hK K hHeld
                    have hHeld := HS.out _ HY0.out
                    try simp only [Act.put, List.setIfInBounds_toArray, List.set_cons_zero, List.set_cons_succ]
                    have Hz0 := Lib.hid (show (V.alloc (.cells #[.slice none 0 0, .slice none 0 0, .int .i64 0] 25)).heap[V.heap.size]? = some (.cells #[.slice none 0 0, .slice none 0 0, .int .i64 0] 25 (0, 0)) from alloc_at rfl)
                    have Hgb : Hid (X.heap.size ≤ V.heap.size) := Lib.hid HV.out.size
                    have Hgl := Lib.hid (block_lt Hz0.out)
                    generalize V.alloc (.cells #[.slice none 0 0, .slice none 0 0, .int .i64 0] 25) = V2 at *
                    generalize V.heap.size = gb at *
                    refine held_one (i := 11) (o := ?oi11u192) (by kernel_rfl) ?hi11u192 (fun K hK => ?rest11u192)
                    case hi11u192 => (simp only [List.getElem?_toArray, List.getElem?_cons_succ, List.getElem?_cons_zero]; exact rfl)
                    go_simp
                    go_at_call 23
                    refine (Hcall.out _ _ _ _ _ (HCg.out.below HY0.out) (HNg.out.below HY0.out)).mono ?_
                    rintro e w4 ⟨A2, c2, B2, d2, rfl, hC2, hN2, hb4, hor⟩
                    have HY := Lib.hid (HY0.out.trans (hb4.mono HY0.out.size))
                    have Hz := Lib.hid ((hb4.block gb Hgl.out).trans Hz0.out)
                    have HCy := Lib.hid hC2
                    have HNy := Lib.hid hN2
                    have Sep := Lib.hid (show TU.length ≠ 0 → ∀ z, B2 = some z → z.block ≠ gb from fun h0 z hz => by
                      rcases hor with o1 | ⟨o1, o2⟩
                      · exact Nat.ne_of_gt (Nat.lt_of_lt_of_le Hgl.out (o1 z hz))
                      · rw [o2] at h0
                        rw [o1] at hz
                        exact Nat.ne_of_lt (Nat.lt_of_lt_of_le (IsI.lt HNg.out h0 z hz) Hgb.out))
                    clear hC2 hN2 hb4 hor
                    try go_simp
                    refine hK _ _ (HS.out _ HY.out) ?_
                    clear hK K hHeld
                    have hHeld := HS.out _ HY.out
                    try simp only [Act.put, List.setIfInBounds_toArray, List.set_cons_zero, List.set_cons_succ]
                    refine wpAnyH_take (i := 12) (oi := ?oi12u193) (v := ?v12u193) ?hi12u193 (by kernel_rfl) (by kernel_rfl) (by kernel_rfl) ?hQ12u193 (Or.inl ⟨?hw12u193, ?hy12u193⟩) hHeld ?rest12u193
                    case hi12u193 => (simp only [List.getElem?_toArray, List.getElem?_cons_succ, List.getElem?_cons_zero]; exact rfl)
                    case hQ12u193 => exact fun _ _ _ h => h
                    case hw12u193 => rfl
                    case hy12u193 => (intro w hSw; (try dsimp only at hSw); go_simp <;> with_reducible rfl)
                    try simp only [Act.put, List.setIfInBounds_toArray, List.set_cons_zero, List.set_cons_succ]
                    refine wpAnyH_take (i := 13) (oi := ?oi13u194) (v := ?v13u194) ?hi13u194 (by kernel_rfl) (by kernel_rfl) (by kernel_rfl) ?hQ13u194 (Or.inl ⟨?hw13u194, ?hy13u194⟩) hHeld ?rest13u194
                    case hi13u194 => (simp only [List.getElem?_toArray, List.getElem?_cons_succ, List.getElem?_cons_zero]; exact rfl)
                    case hQ13u194 => exact fun _ _ _ h => h
                    case hw13u194 => rfl
                    case hy13u194 => (intro w hSw; (try dsimp only at hSw); go_simp <;> with_reducible rfl)
                    try simp only [Act.put, List.setIfInBounds_toArray, List.set_cons_zero, List.set_cons_succ]
                    refine wpAnyH_take (i := 14) (oi := ?oi14u195) (v := ?v14u195) ?hi14u195 (by kernel_rfl) (by kernel_rfl) (by kernel_rfl) ?hQ14u195 (Or.inl ⟨?hw14u195, ?hy14u195⟩) hHeld ?rest14u195
                    case hi14u195 => (simp only [List.getElem?_toArray, List.getElem?_cons_succ, List.getElem?_cons_zero]; exact rfl)
                    case hQ14u195 => exact fun _ _ _ h => h
                    case hw14u195 => rfl
                    case hy14u195 => (intro w hSw; (try dsimp only at hSw); go_simp <;> with_reducible rfl)
                    try simp only [Act.put, List.setIfInBounds_toArray, List.set_cons_zero, List.set_cons_succ]
                    generalize w4 = Y at *
                    obtain ⟨z0, z1, z2, zl⟩ := open3 Hz.out
                    have zf0 := frozen_of Hz.out 0
                    have zf1 := frozen_of Hz.out 1
                    have zf2 := frozen_of Hz.out 2
                    have hk : Kq gb Y (((Y.setCell ⟨gb, 0, none⟩ (.slice A2 LU.length c2)).setCell ⟨gb, 1, none⟩ (.slice B2 TU.length d2)).setCell ⟨gb, 2, none⟩ (.int .i64 r)) := ((Kq.set Y 0 _).trans (Kq.set _ 1 _)).trans (Kq.set _ 2 _)
                    have h1 := set_block (k := 0) Hz.out (.slice A2 LU.length c2)
                    have h2 := set_block (k := 1) h1 (.slice B2 TU.length d2)
                    have h3 := set_block (k := 2) h2 (.int .i64 r)
                    have HzF : Hid ((((Y.setCell ⟨gb, 0, none⟩ (.slice A2 LU.length c2)).setCell ⟨gb, 1, none⟩ (.slice B2 TU.length d2)).setCell ⟨gb, 2, none⟩ (.int .i64 r)).heap[gb]? = some (.cells #[.slice A2 LU.length c2, .slice B2 TU.length d2, .int .i64 r] 25 (0, 0))) := Lib.hid (by simpa using h3)
                    have HCF := Lib.hid (HCy.out.kq8 hk ⟨_, _, _, _, _, _, Hz.out⟩)
                    have HNF := Lib.hid (HNy.out.kq9 hk Sep.out)
                    have HF := Lib.hid (HY.out.trans (hk.bel.mono Hgb.out))

                    refine held_one (i := 16) (o := ?oi16u196) (by kernel_rfl) ?hi16u196 (fun K hK => ?rest16u196)
                    case hi16u196 => (simp only [List.getElem?_toArray, List.getElem?_cons_succ, List.getElem?_cons_zero]; exact rfl)
                    go_simp
                    refine hK _ _ (HS.out _ HF.out) ?_
                    clear hK K hHeld
                    have hHeld := HS.out _ HF.out
                    try simp only [Act.put, List.setIfInBounds_toArray, List.set_cons_zero, List.set_cons_succ]
                    refine wpAnyH_take (i := 17) (oi := ?oi17u197) (v := ?v17u197) ?hi17u197 (by kernel_rfl) (by kernel_rfl) (by kernel_rfl) ?hQ17u197 (Or.inl ⟨?hw17u197, ?hy17u197⟩) hHeld ?rest17u197
                    case hi17u197 => (simp only [List.getElem?_toArray, List.getElem?_cons_succ, List.getElem?_cons_zero]; exact rfl)
                    case hQ17u197 => exact fun _ _ _ h => h
                    case hw17u197 => rfl
                    case hy17u197 => (intro w hSw; (try dsimp only at hSw); go_simp <;> with_reducible rfl)
                    try simp only [Act.put, List.setIfInBounds_toArray, List.set_cons_zero, List.set_cons_succ]
                    refine wpAnyH_done (by kernel_rfl) ?_ _
                    clear hk h1 h2 h3 z0 z1 z2 zl zf0 zf1 zf2 hHeld
                    generalize (((Y.setCell ⟨gb, 0, none⟩ (.slice A2 LU.length c2)).setCell ⟨gb, 1, none⟩ (.slice B2 TU.length d2)).setCell ⟨gb, 2, none⟩ (.int .i64 r)) = F at *
                    go_wp2_with fail
                    go_meet
                    exact ⟨gb, rfl, rfl, ⟨A2, c2, B2, d2, HzF.out, HCF.out, HNF.out⟩, Hgb.out, HF.out⟩
              case rest =>
                obtain ⟨gy, rfl, rfl, hBy, hgy, hbn⟩ := hcut
                have hI2 := HI1.out.below hbn
                have hM2 := HM1.out.below hbn
                obtain ⟨Ax, cx, Bx, dx, ⟨hCx, hNx⟩, hYx⟩ := hBy.open
                obtain ⟨y0, y1, y2, yl⟩ := hYx _ (Below.refl _ _)
                obtain ⟨v0, v1, u0, u1, u2, ul, f0, f1, f2⟩ := hI2.heap.rb.open
                obtain ⟨hst, hkq⟩ := hI2.store n0 nw Hok.out hCx hNx Ok3.out (Nat.le_of_eq Len3.out.symm) Hs3.out
                have HM3 := Lib.hid (hM2.kq hkq hmh)
                have HI4 := Lib.hid hst
                clear hI2 hM2 hBy hCx hNx hYx hst hkq
                go_wp2
                go_roundw
                case rel => exact ⟨i + 1, LU, TU, ds ++ ds3, a, D, pn, e, by omega, by omega, by go_num, rfl, HI4.out, HM3.out⟩
                case measure => simp [intOf]; omega
        · have hd1 : decide ((i : Int) < (nq : Int)) = true := by simp; omega
          have hd2 : decide ((i : Int) < 20) = false := by simp; omega
          obtain ⟨A3, c3, B3, d3, ⟨hC3, hN3⟩, hY3⟩ := hI.heap.open
          obtain ⟨A4, c4, B4, d4, ⟨hC4, hN4⟩, hY4⟩ := hI.old.open
          have hY5 := hM.open
          have hlo := hI.low
          have Ok3 := Lib.hid hI.ok
          have Hs3 := Lib.hid hI.hst
          have hS : ∀ w', Below wr.heap.size wr w' → w'.cell? ⟨gm, 0, none⟩ = some (.int .i64 l.length) ∧ w'.cell? ⟨gm, 1, none⟩ = some (.int .i64 tr.length) ∧ w'.cell? ⟨gm, 2, none⟩ = some (.slice none 0 0) ∧ w'.cell? ⟨g0, 0, none⟩ = some (.slice A4 l.length c4) ∧ w'.cell? ⟨g0, 1, none⟩ = some (.slice B4 tr.length d4) ∧ w'.cell? ⟨g0, 2, none⟩ = some (.int .i64 r) ∧ w'.cell? ⟨gh, 0, none⟩ = some (.slice A3 L.length c3) ∧ w'.cell? ⟨gh, 1, none⟩ = some (.slice B3 TR.length d3) ∧ w'.cell? ⟨gh, 2, none⟩ = some (.int .i64 r) := fun w' hb => by
            obtain ⟨r0, r1, r2, _⟩ := hY3 w' hb
            obtain ⟨s0, s1, s2, _⟩ := hY4 w' hb
            obtain ⟨t0, t1, t2, _⟩ := hY5 w' hb
            exact ⟨t0, t1, t2, s0, s1, s2, r0, r1, r2⟩
          clear hI hM
          go_upto_region 15 with fail
          refine wp_region_held_drew (S := fun w' => w'.cell? ⟨gm, 0, none⟩ = some (.int .i64 l.length) ∧ w'.cell? ⟨gm, 1, none⟩ = some (.int .i64 tr.length) ∧ w'.cell? ⟨gm, 2, none⟩ = some (.slice none 0 0) ∧ w'.cell? ⟨g0, 0, none⟩ = some (.slice A4 l.length c4) ∧ w'.cell? ⟨g0, 1, none⟩ = some (.slice B4 tr.length d4) ∧ w'.cell? ⟨g0, 2, none⟩ = some (.int .i64 r) ∧ w'.cell? ⟨gh, 0, none⟩ = some (.slice A3 L.length c3) ∧ w'.cell? ⟨gh, 1, none⟩ = some (.slice B3 TR.length d3) ∧ w'.cell? ⟨gh, 2, none⟩ = some (.int .i64 r)) (by kernel_rfl) ?gs15 ?gr15
          case gs15 => exact hS _ (Below.refl _ _).drew
          case gr15 =>
            intro hHeld
            have HS := Lib.hid hS
            have HC3 := Lib.hid hC3
            have HN3 := Lib.hid hN3
            have HC4 := Lib.hid hC4
            have HN4 := Lib.hid hN4
            have Hbw := Lib.hid hlo
            have HV : Hid (Below wr.heap.size wr wr.drew) := Lib.hid ((Below.refl _ _).drew)
            clear hS hY3 hY4 hY5 hC3 hN3 hC4 hN4 hlo
            generalize wr.drew = V at *

            refine wpAnyH_take (i := 0) (oi := ?oi0u198) (v := ?v0u198) ?hi0u198 (by kernel_rfl) (by kernel_rfl) (by kernel_rfl) ?hQ0u198 (Or.inl ⟨?hw0u198, ?hy0u198⟩) hHeld ?rest0u198
            case hi0u198 => (simp only [List.getElem?_toArray, List.getElem?_cons_succ, List.getElem?_cons_zero]; exact rfl)
            case hQ0u198 => exact fun _ _ _ h => h
            case hw0u198 => rfl
            case hy0u198 => (intro w hSw; (try dsimp only at hSw); go_simp <;> with_reducible rfl)
            try simp only [Act.put, List.setIfInBounds_toArray, List.set_cons_zero, List.set_cons_succ]
            refine wpAnyH_take (i := 1) (oi := ?oi1u199) (v := ?v1u199) ?hi1u199 (by kernel_rfl) (by kernel_rfl) (by kernel_rfl) ?hQ1u199 (Or.inl ⟨?hw1u199, ?hy1u199⟩) hHeld ?rest1u199
            case hi1u199 => (simp only [List.getElem?_toArray, List.getElem?_cons_succ, List.getElem?_cons_zero]; exact rfl)
            case hQ1u199 => exact fun _ _ _ h => h
            case hw1u199 => rfl
            case hy1u199 => (intro w hSw; (try dsimp only at hSw); go_simp <;> with_reducible rfl)
            try simp only [Act.put, List.setIfInBounds_toArray, List.set_cons_zero, List.set_cons_succ]
            refine wpAnyH_take (i := 2) (oi := ?oi2u200) (v := ?v2u200) ?hi2u200 (by kernel_rfl) (by kernel_rfl) (by kernel_rfl) ?hQ2u200 (Or.inl ⟨?hw2u200, ?hy2u200⟩) hHeld ?rest2u200
            case hi2u200 => (simp only [List.getElem?_toArray, List.getElem?_cons_succ, List.getElem?_cons_zero]; exact rfl)
            case hQ2u200 => exact fun _ _ _ h => h
            case hw2u200 => rfl
            case hy2u200 => (intro w hSw; (try dsimp only at hSw); go_simp <;> with_reducible rfl)
            try simp only [Act.put, List.setIfInBounds_toArray, List.set_cons_zero, List.set_cons_succ]
            refine wpAnyH_take (i := 3) (oi := ?oi3u201) (v := ?v3u201) ?hi3u201 (by kernel_rfl) (by kernel_rfl) (by kernel_rfl) ?hQ3u201 (Or.inl ⟨?hw3u201, ?hy3u201⟩) hHeld ?rest3u201
            case hi3u201 => (simp only [List.getElem?_toArray, List.getElem?_cons_succ, List.getElem?_cons_zero]; exact rfl)
            case hQ3u201 => exact fun _ _ _ h => h
            case hw3u201 => rfl
            case hy3u201 => (intro w hSw; (try dsimp only at hSw); go_simp <;> with_reducible rfl)
            try simp only [Act.put, List.setIfInBounds_toArray, List.set_cons_zero, List.set_cons_succ]
            refine wpAnyH_take (i := 4) (oi := ?oi4u202) (v := ?v4u202) ?hi4u202 (by kernel_rfl) (by kernel_rfl) (by kernel_rfl) ?hQ4u202 (Or.inl ⟨?hw4u202, ?hy4u202⟩) hHeld ?rest4u202
            case hi4u202 => (simp only [List.getElem?_toArray, List.getElem?_cons_succ, List.getElem?_cons_zero]; exact rfl)
            case hQ4u202 => exact fun _ _ _ h => h
            case hw4u202 => rfl
            case hy4u202 => (intro w hSw; (try dsimp only at hSw); go_simp <;> with_reducible rfl)
            try simp only [Act.put, List.setIfInBounds_toArray, List.set_cons_zero, List.set_cons_succ]
            refine wpAnyH_take (i := 5) (oi := ?oi5u203) (v := ?v5u203) ?hi5u203 (by kernel_rfl) (by kernel_rfl) (by kernel_rfl) ?hQ5u203 (Or.inl ⟨?hw5u203, ?hy5u203⟩) hHeld ?rest5u203
            case hi5u203 => (simp only [List.getElem?_toArray, List.getElem?_cons_succ, List.getElem?_cons_zero]; exact rfl)
            case hQ5u203 => exact fun _ _ _ h => h
            case hw5u203 => rfl
            case hy5u203 => (intro w hSw; (try dsimp only at hSw); go_simp <;> with_reducible rfl)
            try simp only [Act.put, List.setIfInBounds_toArray, List.set_cons_zero, List.set_cons_succ]
            refine wpAnyH_take (i := 6) (oi := ?oi6u204) (v := ?v6u204) ?hi6u204 (by kernel_rfl) (by kernel_rfl) (by kernel_rfl) ?hQ6u204 (Or.inl ⟨?hw6u204, ?hy6u204⟩) hHeld ?rest6u204
            case hi6u204 => (simp only [List.getElem?_toArray, List.getElem?_cons_succ, List.getElem?_cons_zero]; exact rfl)
            case hQ6u204 => exact fun _ _ _ h => h
            case hw6u204 => rfl
            case hy6u204 => (intro w hSw; (try dsimp only at hSw); go_simp <;> with_reducible rfl)
            try simp only [Act.put, List.setIfInBounds_toArray, List.set_cons_zero, List.set_cons_succ]
            refine wpAnyH_take (i := 7) (oi := ?oi7u205) (v := ?v7u205) ?hi7u205 (by kernel_rfl) (by kernel_rfl) (by kernel_rfl) ?hQ7u205 (Or.inl ⟨?hw7u205, ?hy7u205⟩) hHeld ?rest7u205
            case hi7u205 => (simp only [List.getElem?_toArray, List.getElem?_cons_succ, List.getElem?_cons_zero]; exact rfl)
            case hQ7u205 => exact fun _ _ _ h => h
            case hw7u205 => rfl
            case hy7u205 => (intro w hSw; (try dsimp only at hSw); go_simp <;> with_reducible rfl)
            try simp only [Act.put, List.setIfInBounds_toArray, List.set_cons_zero, List.set_cons_succ]
            refine wpAnyH_take (i := 8) (oi := ?oi8u206) (v := ?v8u206) ?hi8u206 (by kernel_rfl) (by kernel_rfl) (by kernel_rfl) ?hQ8u206 (Or.inl ⟨?hw8u206, ?hy8u206⟩) hHeld ?rest8u206
            case hi8u206 => (simp only [List.getElem?_toArray, List.getElem?_cons_succ, List.getElem?_cons_zero]; exact rfl)
            case hQ8u206 => exact fun _ _ _ h => h
            case hw8u206 => rfl
            case hy8u206 => (intro w hSw; (try dsimp only at hSw); go_simp <;> with_reducible rfl)
            try simp only [Act.put, List.setIfInBounds_toArray, List.set_cons_zero, List.set_cons_succ]
            refine wpAnyH_take (i := 9) (oi := ?oi9u207) (v := ?v9u207) ?hi9u207 (by kernel_rfl) (by kernel_rfl) (by kernel_rfl) ?hQ9u207 (Or.inl ⟨?hw9u207, ?hy9u207⟩) hHeld ?rest9u207
            case hi9u207 => (simp only [List.getElem?_toArray, List.getElem?_cons_succ, List.getElem?_cons_zero]; exact rfl)
            case hQ9u207 => exact fun _ _ _ h => h
            case hw9u207 => rfl
            case hy9u207 => (intro w hSw; (try dsimp only at hSw); go_simp <;> with_reducible rfl)
            try simp only [Act.put, List.setIfInBounds_toArray, List.set_cons_zero, List.set_cons_succ]
            refine wpAnyH_take (i := 10) (oi := ?oi10u208) (v := ?v10u208) ?hi10u208 (by kernel_rfl) (by kernel_rfl) (by kernel_rfl) ?hQ10u208 (Or.inl ⟨?hw10u208, ?hy10u208⟩) hHeld ?rest10u208
            case hi10u208 => (simp only [List.getElem?_toArray, List.getElem?_cons_succ, List.getElem?_cons_zero]; exact rfl)
            case hQ10u208 => exact fun _ _ _ h => h
            case hw10u208 => rfl
            case hy10u208 => (intro w hSw; (try dsimp only at hSw); go_simp <;> with_reducible rfl)
            try simp only [Act.put, List.setIfInBounds_toArray, List.set_cons_zero, List.set_cons_succ]
            refine wpAnyH_take (i := 11) (oi := ?oi11u209) (v := ?v11u209) ?hi11u209 (by kernel_rfl) (by kernel_rfl) (by kernel_rfl) ?hQ11u209 (Or.inl ⟨?hw11u209, ?hy11u209⟩) hHeld ?rest11u209
            case hi11u209 => (simp only [List.getElem?_toArray, List.getElem?_cons_succ, List.getElem?_cons_zero]; exact rfl)
            case hQ11u209 => exact fun _ _ _ h => h
            case hw11u209 => rfl
            case hy11u209 => (intro w hSw; (try dsimp only at hSw); go_simp <;> with_reducible rfl)
            try simp only [Act.put, List.setIfInBounds_toArray, List.set_cons_zero, List.set_cons_succ]
            refine wpAnyH_take (i := 12) (oi := ?oi12u210) (v := ?v12u210) ?hi12u210 (by kernel_rfl) (by kernel_rfl) (by kernel_rfl) ?hQ12u210 (Or.inl ⟨?hw12u210, ?hy12u210⟩) hHeld ?rest12u210
            case hi12u210 => (simp only [List.getElem?_toArray, List.getElem?_cons_succ, List.getElem?_cons_zero]; exact rfl)
            case hQ12u210 => exact fun _ _ _ h => h
            case hw12u210 => rfl
            case hy12u210 => (intro w hSw; (try dsimp only at hSw); go_simp <;> with_reducible rfl)
            try simp only [Act.put, List.setIfInBounds_toArray, List.set_cons_zero, List.set_cons_succ]
            refine wpAnyH_take (i := 13) (oi := ?oi13u211) (v := ?v13u211) ?hi13u211 (by kernel_rfl) (by kernel_rfl) (by kernel_rfl) ?hQ13u211 (Or.inl ⟨?hw13u211, ?hy13u211⟩) hHeld ?rest13u211
            case hi13u211 => (simp only [List.getElem?_toArray, List.getElem?_cons_succ, List.getElem?_cons_zero]; exact rfl)
            case hQ13u211 => exact fun _ _ _ h => h
            case hw13u211 => rfl
            case hy13u211 => (intro w hSw; (try dsimp only at hSw); go_simp <;> with_reducible rfl)
            try simp only [Act.put, List.setIfInBounds_toArray, List.set_cons_zero, List.set_cons_succ]
            refine wpAnyH_take (i := 14) (oi := ?oi14u212) (v := ?v14u212) ?hi14u212 (by kernel_rfl) (by kernel_rfl) (by kernel_rfl) ?hQ14u212 (Or.inl ⟨?hw14u212, ?hy14u212⟩) hHeld ?rest14u212
            case hi14u212 => (simp only [List.getElem?_toArray, List.getElem?_cons_succ, List.getElem?_cons_zero]; exact rfl)
            case hQ14u212 => exact fun _ _ _ h => h
            case hw14u212 => rfl
            case hy14u212 => (intro w hSw; (try dsimp only at hSw); go_simp <;> with_reducible rfl)
            try simp only [Act.put, List.setIfInBounds_toArray, List.set_cons_zero, List.set_cons_succ]
            refine wpAnyH_take (i := 15) (oi := ?oi15u213) (v := ?v15u213) ?hi15u213 (by kernel_rfl) (by kernel_rfl) (by kernel_rfl) ?hQ15u213 (Or.inl ⟨?hw15u213, ?hy15u213⟩) hHeld ?rest15u213
            case hi15u213 => (simp only [List.getElem?_toArray, List.getElem?_cons_succ, List.getElem?_cons_zero]; exact rfl)
            case hQ15u213 => exact fun _ _ _ h => h
            case hw15u213 => rfl
            case hy15u213 => (intro w hSw; (try dsimp only at hSw); go_simp <;> with_reducible rfl)
            try simp only [Act.put, List.setIfInBounds_toArray, List.set_cons_zero, List.set_cons_succ]
            refine wpAnyH_take (i := 16) (oi := ?oi16u214) (v := ?v16u214) ?hi16u214 (by kernel_rfl) (by kernel_rfl) (by kernel_rfl) ?hQ16u214 (Or.inl ⟨?hw16u214, ?hy16u214⟩) hHeld ?rest16u214
            case hi16u214 => (simp only [List.getElem?_toArray, List.getElem?_cons_succ, List.getElem?_cons_zero]; exact rfl)
            case hQ16u214 => exact fun _ _ _ h => h
            case hw16u214 => rfl
            case hy16u214 => (intro w hSw; (try dsimp only at hSw); go_simp <;> with_reducible rfl)
            try simp only [Act.put, List.setIfInBounds_toArray, List.set_cons_zero, List.set_cons_succ]
            refine wpAnyH_take (i := 18) (oi := ?oi18u215) (v := ?v18u215) ?hi18u215 (by kernel_rfl) (by kernel_rfl) (by kernel_rfl) ?hQ18u215 (Or.inl ⟨?hw18u215, ?hy18u215⟩) hHeld ?rest18u215
            case hi18u215 => (simp only [List.getElem?_toArray, List.getElem?_cons_succ, List.getElem?_cons_zero]; exact rfl)
            case hQ18u215 => exact fun _ _ _ h => h
            case hw18u215 => rfl
            case hy18u215 => (intro w hSw; (try dsimp only at hSw); go_simp <;> with_reducible rfl)
            try simp only [Act.put, List.setIfInBounds_toArray, List.set_cons_zero, List.set_cons_succ]
            refine held_one (i := 17) (o := ?oi17u216) (by kernel_rfl) ?hi17u216 (fun K hK => ?rest17u216)
            case hi17u216 => (simp only [List.getElem?_toArray, List.getElem?_cons_succ, List.getElem?_cons_zero]; exact rfl)
            go_simp
            go_at_call 29
            refine (undo8 (R := none) (k := 0) (kc := 0) (HC3.out.below HV.out) (HN3.out.below HV.out) Ok3.out Hs3.out).mono ?_
            rintro e wb ⟨A5, c5, B5, d5, rfl, hC5, hN5, hbb⟩
            have Hb := Lib.hid (HV.out.trans (hbb.mono HV.out.size))
            have HC5 := Lib.hid hC5
            have HN5 := Lib.hid hN5
            clear hC5 hN5
            try go_simp
            refine hK _ _ (HS.out _ Hb.out) ?_
            clear hK K hHeld
            have hHeld := HS.out _ Hb.out
            try simp only [Act.put, List.setIfInBounds_toArray, List.set_cons_zero, List.set_cons_succ]
            refine held_one (i := 19) (o := ?oi19u217) (by kernel_rfl) ?hi19u217 (fun K hK => ?rest19u217)
            case hi19u217 => (simp only [List.getElem?_toArray, List.getElem?_cons_succ, List.getElem?_cons_zero]; exact rfl)
            go_simp
            go_at_call 14
            refine (sames8 Hok.out HC5.out HN5.out (HC4.out.below Hb.out) (HN4.out.below Hb.out)).mono ?_
            rintro e wf ⟨rfl, hbf⟩
            have Hf := Lib.hid (Hb.out.trans (hbf.mono Hb.out.size))
            try go_simp
            refine hK _ _ (HS.out _ Hf.out) ?_
            clear hK K hHeld
            have hHeld := HS.out _ Hf.out
            try simp only [Act.put, List.setIfInBounds_toArray, List.set_cons_zero, List.set_cons_succ]
            refine wpAnyH_take (i := 20) (oi := ?oi20u218) (v := ?v20u218) ?hi20u218 (by kernel_rfl) (by kernel_rfl) (by kernel_rfl) ?hQ20u218 (Or.inl ⟨?hw20u218, ?hy20u218⟩) hHeld ?rest20u218
            case hi20u218 => (simp only [List.getElem?_toArray, List.getElem?_cons_succ, List.getElem?_cons_zero]; exact rfl)
            case hQ20u218 => exact fun _ _ _ h => h
            case hw20u218 => rfl
            case hy20u218 => (intro w hSw; (try dsimp only at hSw); go_simp <;> with_reducible rfl)
            try simp only [Act.put, List.setIfInBounds_toArray, List.set_cons_zero, List.set_cons_succ]
            refine wpAnyH_take (i := 21) (oi := ?oi21u219) (v := ?v21u219) ?hi21u219 (by kernel_rfl) (by kernel_rfl) (by kernel_rfl) ?hQ21u219 (Or.inl ⟨?hw21u219, ?hy21u219⟩) hHeld ?rest21u219
            case hi21u219 => (simp only [List.getElem?_toArray, List.getElem?_cons_succ, List.getElem?_cons_zero]; exact rfl)
            case hQ21u219 => exact fun _ _ _ h => h
            case hw21u219 => rfl
            case hy21u219 => (intro w hSw; (try dsimp only at hSw); go_simp <;> with_reducible rfl)
            try simp only [Act.put, List.setIfInBounds_toArray, List.set_cons_zero, List.set_cons_succ]
            refine wpAnyH_take (i := 22) (oi := ?oi22u220) (v := ?v22u220) ?hi22u220 (by kernel_rfl) (by kernel_rfl) (by kernel_rfl) ?hQ22u220 (Or.inl ⟨?hw22u220, ?hy22u220⟩) hHeld ?rest22u220
            case hi22u220 => (simp only [List.getElem?_toArray, List.getElem?_cons_succ, List.getElem?_cons_zero]; exact rfl)
            case hQ22u220 => exact fun _ _ _ h => h
            case hw22u220 => rfl
            case hy22u220 => (intro w hSw; (try dsimp only at hSw); go_simp <;> with_reducible rfl)
            try simp only [Act.put, List.setIfInBounds_toArray, List.set_cons_zero, List.set_cons_succ]
            refine wpAnyH_take (i := 23) (oi := ?oi23u221) (v := ?v23u221) ?hi23u221 (by kernel_rfl) (by kernel_rfl) (by kernel_rfl) ?hQ23u221 (Or.inl ⟨?hw23u221, ?hy23u221⟩) hHeld ?rest23u221
            case hi23u221 => (simp only [List.getElem?_toArray, List.getElem?_cons_succ, List.getElem?_cons_zero]; exact rfl)
            case hQ23u221 => exact fun _ _ _ h => h
            case hw23u221 => rfl
            case hy23u221 => (intro w hSw; (try dsimp only at hSw); go_simp <;> with_reducible rfl)
            try simp only [Act.put, List.setIfInBounds_toArray, List.set_cons_zero, List.set_cons_succ]
            refine wpAnyH_take (i := 24) (oi := ?oi24u222) (v := ?v24u222) ?hi24u222 (by kernel_rfl) (by kernel_rfl) (by kernel_rfl) ?hQ24u222 (Or.inl ⟨?hw24u222, ?hy24u222⟩) hHeld ?rest24u222
            case hi24u222 => (simp only [List.getElem?_toArray, List.getElem?_cons_succ, List.getElem?_cons_zero]; exact rfl)
            case hQ24u222 => exact fun _ _ _ h => h
            case hw24u222 => rfl
            case hy24u222 => (intro w hSw; (try dsimp only at hSw); go_simp <;> with_reducible rfl)
            try simp only [Act.put, List.setIfInBounds_toArray, List.set_cons_zero, List.set_cons_succ]
            refine wpAnyH_done (by kernel_rfl) ?_ _
            go_wp2
            refine bodyPost_ret (v := .bool true) (by simp [results, Try.results8, go_sem, *]) rfl ?_
            exact ⟨rfl, Hbw.out.trans (Hf.out.mono Hbw.out.size)⟩
      · have hd1 : decide ((i : Int) < (nq : Int)) = false := by simp; omega
        obtain ⟨A3, c3, B3, d3, ⟨hC3, hN3⟩, hY3⟩ := hI.heap.open
        obtain ⟨A4, c4, B4, d4, ⟨hC4, hN4⟩, hY4⟩ := hI.old.open
        have hY5 := hM.open
        have hlo := hI.low
        have Ok3 := Lib.hid hI.ok
        have Hs3 := Lib.hid hI.hst
        have hS : ∀ w', Below wr.heap.size wr w' → w'.cell? ⟨gm, 0, none⟩ = some (.int .i64 l.length) ∧ w'.cell? ⟨gm, 1, none⟩ = some (.int .i64 tr.length) ∧ w'.cell? ⟨gm, 2, none⟩ = some (.slice none 0 0) ∧ w'.cell? ⟨g0, 0, none⟩ = some (.slice A4 l.length c4) ∧ w'.cell? ⟨g0, 1, none⟩ = some (.slice B4 tr.length d4) ∧ w'.cell? ⟨g0, 2, none⟩ = some (.int .i64 r) ∧ w'.cell? ⟨gh, 0, none⟩ = some (.slice A3 L.length c3) ∧ w'.cell? ⟨gh, 1, none⟩ = some (.slice B3 TR.length d3) ∧ w'.cell? ⟨gh, 2, none⟩ = some (.int .i64 r) := fun w' hb => by
          obtain ⟨r0, r1, r2, _⟩ := hY3 w' hb
          obtain ⟨s0, s1, s2, _⟩ := hY4 w' hb
          obtain ⟨t0, t1, t2, _⟩ := hY5 w' hb
          exact ⟨t0, t1, t2, s0, s1, s2, r0, r1, r2⟩
        clear hI hM
        go_upto_region 15 with fail
        refine wp_region_held_drew (S := fun w' => w'.cell? ⟨gm, 0, none⟩ = some (.int .i64 l.length) ∧ w'.cell? ⟨gm, 1, none⟩ = some (.int .i64 tr.length) ∧ w'.cell? ⟨gm, 2, none⟩ = some (.slice none 0 0) ∧ w'.cell? ⟨g0, 0, none⟩ = some (.slice A4 l.length c4) ∧ w'.cell? ⟨g0, 1, none⟩ = some (.slice B4 tr.length d4) ∧ w'.cell? ⟨g0, 2, none⟩ = some (.int .i64 r) ∧ w'.cell? ⟨gh, 0, none⟩ = some (.slice A3 L.length c3) ∧ w'.cell? ⟨gh, 1, none⟩ = some (.slice B3 TR.length d3) ∧ w'.cell? ⟨gh, 2, none⟩ = some (.int .i64 r)) (by kernel_rfl) ?gs15 ?gr15
        case gs15 => exact hS _ (Below.refl _ _).drew
        case gr15 =>
          intro hHeld
          have HS := Lib.hid hS
          have HC3 := Lib.hid hC3
          have HN3 := Lib.hid hN3
          have HC4 := Lib.hid hC4
          have HN4 := Lib.hid hN4
          have Hbw := Lib.hid hlo
          have HV : Hid (Below wr.heap.size wr wr.drew) := Lib.hid ((Below.refl _ _).drew)
          clear hS hY3 hY4 hY5 hC3 hN3 hC4 hN4 hlo
          generalize wr.drew = V at *

          refine wpAnyH_take (i := 0) (oi := ?oi0u223) (v := ?v0u223) ?hi0u223 (by kernel_rfl) (by kernel_rfl) (by kernel_rfl) ?hQ0u223 (Or.inl ⟨?hw0u223, ?hy0u223⟩) hHeld ?rest0u223
          case hi0u223 => (simp only [List.getElem?_toArray, List.getElem?_cons_succ, List.getElem?_cons_zero]; exact rfl)
          case hQ0u223 => exact fun _ _ _ h => h
          case hw0u223 => rfl
          case hy0u223 => (intro w hSw; (try dsimp only at hSw); go_simp <;> with_reducible rfl)
          try simp only [Act.put, List.setIfInBounds_toArray, List.set_cons_zero, List.set_cons_succ]
          refine wpAnyH_take (i := 1) (oi := ?oi1u224) (v := ?v1u224) ?hi1u224 (by kernel_rfl) (by kernel_rfl) (by kernel_rfl) ?hQ1u224 (Or.inl ⟨?hw1u224, ?hy1u224⟩) hHeld ?rest1u224
          case hi1u224 => (simp only [List.getElem?_toArray, List.getElem?_cons_succ, List.getElem?_cons_zero]; exact rfl)
          case hQ1u224 => exact fun _ _ _ h => h
          case hw1u224 => rfl
          case hy1u224 => (intro w hSw; (try dsimp only at hSw); go_simp <;> with_reducible rfl)
          try simp only [Act.put, List.setIfInBounds_toArray, List.set_cons_zero, List.set_cons_succ]
          refine wpAnyH_take (i := 2) (oi := ?oi2u225) (v := ?v2u225) ?hi2u225 (by kernel_rfl) (by kernel_rfl) (by kernel_rfl) ?hQ2u225 (Or.inl ⟨?hw2u225, ?hy2u225⟩) hHeld ?rest2u225
          case hi2u225 => (simp only [List.getElem?_toArray, List.getElem?_cons_succ, List.getElem?_cons_zero]; exact rfl)
          case hQ2u225 => exact fun _ _ _ h => h
          case hw2u225 => rfl
          case hy2u225 => (intro w hSw; (try dsimp only at hSw); go_simp <;> with_reducible rfl)
          try simp only [Act.put, List.setIfInBounds_toArray, List.set_cons_zero, List.set_cons_succ]
          refine wpAnyH_take (i := 3) (oi := ?oi3u226) (v := ?v3u226) ?hi3u226 (by kernel_rfl) (by kernel_rfl) (by kernel_rfl) ?hQ3u226 (Or.inl ⟨?hw3u226, ?hy3u226⟩) hHeld ?rest3u226
          case hi3u226 => (simp only [List.getElem?_toArray, List.getElem?_cons_succ, List.getElem?_cons_zero]; exact rfl)
          case hQ3u226 => exact fun _ _ _ h => h
          case hw3u226 => rfl
          case hy3u226 => (intro w hSw; (try dsimp only at hSw); go_simp <;> with_reducible rfl)
          try simp only [Act.put, List.setIfInBounds_toArray, List.set_cons_zero, List.set_cons_succ]
          refine wpAnyH_take (i := 4) (oi := ?oi4u227) (v := ?v4u227) ?hi4u227 (by kernel_rfl) (by kernel_rfl) (by kernel_rfl) ?hQ4u227 (Or.inl ⟨?hw4u227, ?hy4u227⟩) hHeld ?rest4u227
          case hi4u227 => (simp only [List.getElem?_toArray, List.getElem?_cons_succ, List.getElem?_cons_zero]; exact rfl)
          case hQ4u227 => exact fun _ _ _ h => h
          case hw4u227 => rfl
          case hy4u227 => (intro w hSw; (try dsimp only at hSw); go_simp <;> with_reducible rfl)
          try simp only [Act.put, List.setIfInBounds_toArray, List.set_cons_zero, List.set_cons_succ]
          refine wpAnyH_take (i := 5) (oi := ?oi5u228) (v := ?v5u228) ?hi5u228 (by kernel_rfl) (by kernel_rfl) (by kernel_rfl) ?hQ5u228 (Or.inl ⟨?hw5u228, ?hy5u228⟩) hHeld ?rest5u228
          case hi5u228 => (simp only [List.getElem?_toArray, List.getElem?_cons_succ, List.getElem?_cons_zero]; exact rfl)
          case hQ5u228 => exact fun _ _ _ h => h
          case hw5u228 => rfl
          case hy5u228 => (intro w hSw; (try dsimp only at hSw); go_simp <;> with_reducible rfl)
          try simp only [Act.put, List.setIfInBounds_toArray, List.set_cons_zero, List.set_cons_succ]
          refine wpAnyH_take (i := 6) (oi := ?oi6u229) (v := ?v6u229) ?hi6u229 (by kernel_rfl) (by kernel_rfl) (by kernel_rfl) ?hQ6u229 (Or.inl ⟨?hw6u229, ?hy6u229⟩) hHeld ?rest6u229
          case hi6u229 => (simp only [List.getElem?_toArray, List.getElem?_cons_succ, List.getElem?_cons_zero]; exact rfl)
          case hQ6u229 => exact fun _ _ _ h => h
          case hw6u229 => rfl
          case hy6u229 => (intro w hSw; (try dsimp only at hSw); go_simp <;> with_reducible rfl)
          try simp only [Act.put, List.setIfInBounds_toArray, List.set_cons_zero, List.set_cons_succ]
          refine wpAnyH_take (i := 7) (oi := ?oi7u230) (v := ?v7u230) ?hi7u230 (by kernel_rfl) (by kernel_rfl) (by kernel_rfl) ?hQ7u230 (Or.inl ⟨?hw7u230, ?hy7u230⟩) hHeld ?rest7u230
          case hi7u230 => (simp only [List.getElem?_toArray, List.getElem?_cons_succ, List.getElem?_cons_zero]; exact rfl)
          case hQ7u230 => exact fun _ _ _ h => h
          case hw7u230 => rfl
          case hy7u230 => (intro w hSw; (try dsimp only at hSw); go_simp <;> with_reducible rfl)
          try simp only [Act.put, List.setIfInBounds_toArray, List.set_cons_zero, List.set_cons_succ]
          refine wpAnyH_take (i := 8) (oi := ?oi8u231) (v := ?v8u231) ?hi8u231 (by kernel_rfl) (by kernel_rfl) (by kernel_rfl) ?hQ8u231 (Or.inl ⟨?hw8u231, ?hy8u231⟩) hHeld ?rest8u231
          case hi8u231 => (simp only [List.getElem?_toArray, List.getElem?_cons_succ, List.getElem?_cons_zero]; exact rfl)
          case hQ8u231 => exact fun _ _ _ h => h
          case hw8u231 => rfl
          case hy8u231 => (intro w hSw; (try dsimp only at hSw); go_simp <;> with_reducible rfl)
          try simp only [Act.put, List.setIfInBounds_toArray, List.set_cons_zero, List.set_cons_succ]
          refine wpAnyH_take (i := 9) (oi := ?oi9u232) (v := ?v9u232) ?hi9u232 (by kernel_rfl) (by kernel_rfl) (by kernel_rfl) ?hQ9u232 (Or.inl ⟨?hw9u232, ?hy9u232⟩) hHeld ?rest9u232
          case hi9u232 => (simp only [List.getElem?_toArray, List.getElem?_cons_succ, List.getElem?_cons_zero]; exact rfl)
          case hQ9u232 => exact fun _ _ _ h => h
          case hw9u232 => rfl
          case hy9u232 => (intro w hSw; (try dsimp only at hSw); go_simp <;> with_reducible rfl)
          try simp only [Act.put, List.setIfInBounds_toArray, List.set_cons_zero, List.set_cons_succ]
          refine wpAnyH_take (i := 10) (oi := ?oi10u233) (v := ?v10u233) ?hi10u233 (by kernel_rfl) (by kernel_rfl) (by kernel_rfl) ?hQ10u233 (Or.inl ⟨?hw10u233, ?hy10u233⟩) hHeld ?rest10u233
          case hi10u233 => (simp only [List.getElem?_toArray, List.getElem?_cons_succ, List.getElem?_cons_zero]; exact rfl)
          case hQ10u233 => exact fun _ _ _ h => h
          case hw10u233 => rfl
          case hy10u233 => (intro w hSw; (try dsimp only at hSw); go_simp <;> with_reducible rfl)
          try simp only [Act.put, List.setIfInBounds_toArray, List.set_cons_zero, List.set_cons_succ]
          refine wpAnyH_take (i := 11) (oi := ?oi11u234) (v := ?v11u234) ?hi11u234 (by kernel_rfl) (by kernel_rfl) (by kernel_rfl) ?hQ11u234 (Or.inl ⟨?hw11u234, ?hy11u234⟩) hHeld ?rest11u234
          case hi11u234 => (simp only [List.getElem?_toArray, List.getElem?_cons_succ, List.getElem?_cons_zero]; exact rfl)
          case hQ11u234 => exact fun _ _ _ h => h
          case hw11u234 => rfl
          case hy11u234 => (intro w hSw; (try dsimp only at hSw); go_simp <;> with_reducible rfl)
          try simp only [Act.put, List.setIfInBounds_toArray, List.set_cons_zero, List.set_cons_succ]
          refine wpAnyH_take (i := 12) (oi := ?oi12u235) (v := ?v12u235) ?hi12u235 (by kernel_rfl) (by kernel_rfl) (by kernel_rfl) ?hQ12u235 (Or.inl ⟨?hw12u235, ?hy12u235⟩) hHeld ?rest12u235
          case hi12u235 => (simp only [List.getElem?_toArray, List.getElem?_cons_succ, List.getElem?_cons_zero]; exact rfl)
          case hQ12u235 => exact fun _ _ _ h => h
          case hw12u235 => rfl
          case hy12u235 => (intro w hSw; (try dsimp only at hSw); go_simp <;> with_reducible rfl)
          try simp only [Act.put, List.setIfInBounds_toArray, List.set_cons_zero, List.set_cons_succ]
          refine wpAnyH_take (i := 13) (oi := ?oi13u236) (v := ?v13u236) ?hi13u236 (by kernel_rfl) (by kernel_rfl) (by kernel_rfl) ?hQ13u236 (Or.inl ⟨?hw13u236, ?hy13u236⟩) hHeld ?rest13u236
          case hi13u236 => (simp only [List.getElem?_toArray, List.getElem?_cons_succ, List.getElem?_cons_zero]; exact rfl)
          case hQ13u236 => exact fun _ _ _ h => h
          case hw13u236 => rfl
          case hy13u236 => (intro w hSw; (try dsimp only at hSw); go_simp <;> with_reducible rfl)
          try simp only [Act.put, List.setIfInBounds_toArray, List.set_cons_zero, List.set_cons_succ]
          refine wpAnyH_take (i := 14) (oi := ?oi14u237) (v := ?v14u237) ?hi14u237 (by kernel_rfl) (by kernel_rfl) (by kernel_rfl) ?hQ14u237 (Or.inl ⟨?hw14u237, ?hy14u237⟩) hHeld ?rest14u237
          case hi14u237 => (simp only [List.getElem?_toArray, List.getElem?_cons_succ, List.getElem?_cons_zero]; exact rfl)
          case hQ14u237 => exact fun _ _ _ h => h
          case hw14u237 => rfl
          case hy14u237 => (intro w hSw; (try dsimp only at hSw); go_simp <;> with_reducible rfl)
          try simp only [Act.put, List.setIfInBounds_toArray, List.set_cons_zero, List.set_cons_succ]
          refine wpAnyH_take (i := 15) (oi := ?oi15u238) (v := ?v15u238) ?hi15u238 (by kernel_rfl) (by kernel_rfl) (by kernel_rfl) ?hQ15u238 (Or.inl ⟨?hw15u238, ?hy15u238⟩) hHeld ?rest15u238
          case hi15u238 => (simp only [List.getElem?_toArray, List.getElem?_cons_succ, List.getElem?_cons_zero]; exact rfl)
          case hQ15u238 => exact fun _ _ _ h => h
          case hw15u238 => rfl
          case hy15u238 => (intro w hSw; (try dsimp only at hSw); go_simp <;> with_reducible rfl)
          try simp only [Act.put, List.setIfInBounds_toArray, List.set_cons_zero, List.set_cons_succ]
          refine wpAnyH_take (i := 16) (oi := ?oi16u239) (v := ?v16u239) ?hi16u239 (by kernel_rfl) (by kernel_rfl) (by kernel_rfl) ?hQ16u239 (Or.inl ⟨?hw16u239, ?hy16u239⟩) hHeld ?rest16u239
          case hi16u239 => (simp only [List.getElem?_toArray, List.getElem?_cons_succ, List.getElem?_cons_zero]; exact rfl)
          case hQ16u239 => exact fun _ _ _ h => h
          case hw16u239 => rfl
          case hy16u239 => (intro w hSw; (try dsimp only at hSw); go_simp <;> with_reducible rfl)
          try simp only [Act.put, List.setIfInBounds_toArray, List.set_cons_zero, List.set_cons_succ]
          refine wpAnyH_take (i := 18) (oi := ?oi18u240) (v := ?v18u240) ?hi18u240 (by kernel_rfl) (by kernel_rfl) (by kernel_rfl) ?hQ18u240 (Or.inl ⟨?hw18u240, ?hy18u240⟩) hHeld ?rest18u240
          case hi18u240 => (simp only [List.getElem?_toArray, List.getElem?_cons_succ, List.getElem?_cons_zero]; exact rfl)
          case hQ18u240 => exact fun _ _ _ h => h
          case hw18u240 => rfl
          case hy18u240 => (intro w hSw; (try dsimp only at hSw); go_simp <;> with_reducible rfl)
          try simp only [Act.put, List.setIfInBounds_toArray, List.set_cons_zero, List.set_cons_succ]
          refine held_one (i := 17) (o := ?oi17u241) (by kernel_rfl) ?hi17u241 (fun K hK => ?rest17u241)
          case hi17u241 => (simp only [List.getElem?_toArray, List.getElem?_cons_succ, List.getElem?_cons_zero]; exact rfl)
          go_simp
          go_at_call 29
          refine (undo8 (R := none) (k := 0) (kc := 0) (HC3.out.below HV.out) (HN3.out.below HV.out) Ok3.out Hs3.out).mono ?_
          rintro e wb ⟨A5, c5, B5, d5, rfl, hC5, hN5, hbb⟩
          have Hb := Lib.hid (HV.out.trans (hbb.mono HV.out.size))
          have HC5 := Lib.hid hC5
          have HN5 := Lib.hid hN5
          clear hC5 hN5
          try go_simp
          refine hK _ _ (HS.out _ Hb.out) ?_
          clear hK K hHeld
          have hHeld := HS.out _ Hb.out
          try simp only [Act.put, List.setIfInBounds_toArray, List.set_cons_zero, List.set_cons_succ]
          refine held_one (i := 19) (o := ?oi19u242) (by kernel_rfl) ?hi19u242 (fun K hK => ?rest19u242)
          case hi19u242 => (simp only [List.getElem?_toArray, List.getElem?_cons_succ, List.getElem?_cons_zero]; exact rfl)
          go_simp
          go_at_call 14
          refine (sames8 Hok.out HC5.out HN5.out (HC4.out.below Hb.out) (HN4.out.below Hb.out)).mono ?_
          rintro e wf ⟨rfl, hbf⟩
          have Hf := Lib.hid (Hb.out.trans (hbf.mono Hb.out.size))
          try go_simp
          refine hK _ _ (HS.out _ Hf.out) ?_
          clear hK K hHeld
          have hHeld := HS.out _ Hf.out
          try simp only [Act.put, List.setIfInBounds_toArray, List.set_cons_zero, List.set_cons_succ]
          refine wpAnyH_take (i := 20) (oi := ?oi20u243) (v := ?v20u243) ?hi20u243 (by kernel_rfl) (by kernel_rfl) (by kernel_rfl) ?hQ20u243 (Or.inl ⟨?hw20u243, ?hy20u243⟩) hHeld ?rest20u243
          case hi20u243 => (simp only [List.getElem?_toArray, List.getElem?_cons_succ, List.getElem?_cons_zero]; exact rfl)
          case hQ20u243 => exact fun _ _ _ h => h
          case hw20u243 => rfl
          case hy20u243 => (intro w hSw; (try dsimp only at hSw); go_simp <;> with_reducible rfl)
          try simp only [Act.put, List.setIfInBounds_toArray, List.set_cons_zero, List.set_cons_succ]
          refine wpAnyH_take (i := 21) (oi := ?oi21u244) (v := ?v21u244) ?hi21u244 (by kernel_rfl) (by kernel_rfl) (by kernel_rfl) ?hQ21u244 (Or.inl ⟨?hw21u244, ?hy21u244⟩) hHeld ?rest21u244
          case hi21u244 => (simp only [List.getElem?_toArray, List.getElem?_cons_succ, List.getElem?_cons_zero]; exact rfl)
          case hQ21u244 => exact fun _ _ _ h => h
          case hw21u244 => rfl
          case hy21u244 => (intro w hSw; (try dsimp only at hSw); go_simp <;> with_reducible rfl)
          try simp only [Act.put, List.setIfInBounds_toArray, List.set_cons_zero, List.set_cons_succ]
          refine wpAnyH_take (i := 22) (oi := ?oi22u245) (v := ?v22u245) ?hi22u245 (by kernel_rfl) (by kernel_rfl) (by kernel_rfl) ?hQ22u245 (Or.inl ⟨?hw22u245, ?hy22u245⟩) hHeld ?rest22u245
          case hi22u245 => (simp only [List.getElem?_toArray, List.getElem?_cons_succ, List.getElem?_cons_zero]; exact rfl)
          case hQ22u245 => exact fun _ _ _ h => h
          case hw22u245 => rfl
          case hy22u245 => (intro w hSw; (try dsimp only at hSw); go_simp <;> with_reducible rfl)
          try simp only [Act.put, List.setIfInBounds_toArray, List.set_cons_zero, List.set_cons_succ]
          refine wpAnyH_take (i := 23) (oi := ?oi23u246) (v := ?v23u246) ?hi23u246 (by kernel_rfl) (by kernel_rfl) (by kernel_rfl) ?hQ23u246 (Or.inl ⟨?hw23u246, ?hy23u246⟩) hHeld ?rest23u246
          case hi23u246 => (simp only [List.getElem?_toArray, List.getElem?_cons_succ, List.getElem?_cons_zero]; exact rfl)
          case hQ23u246 => exact fun _ _ _ h => h
          case hw23u246 => rfl
          case hy23u246 => (intro w hSw; (try dsimp only at hSw); go_simp <;> with_reducible rfl)
          try simp only [Act.put, List.setIfInBounds_toArray, List.set_cons_zero, List.set_cons_succ]
          refine wpAnyH_take (i := 24) (oi := ?oi24u247) (v := ?v24u247) ?hi24u247 (by kernel_rfl) (by kernel_rfl) (by kernel_rfl) ?hQ24u247 (Or.inl ⟨?hw24u247, ?hy24u247⟩) hHeld ?rest24u247
          case hi24u247 => (simp only [List.getElem?_toArray, List.getElem?_cons_succ, List.getElem?_cons_zero]; exact rfl)
          case hQ24u247 => exact fun _ _ _ h => h
          case hw24u247 => rfl
          case hy24u247 => (intro w hSw; (try dsimp only at hSw); go_simp <;> with_reducible rfl)
          try simp only [Act.put, List.setIfInBounds_toArray, List.set_cons_zero, List.set_cons_succ]
          refine wpAnyH_done (by kernel_rfl) ?_ _
          go_wp2
          refine bodyPost_ret (v := .bool true) (by simp [results, Try.results8, go_sem, *]) rfl ?_
          exact ⟨rfl, Hbw.out.trans (Hf.out.mono Hbw.out.size)⟩
end Go.Proofs.Ytlndjooddkjnoaa
