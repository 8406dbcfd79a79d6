/- The walk of the law HeapTells. -/
import Derived.WalkMore
import Derived.Test.YtlndjooddkjnoaaLT0
import Derived.Test.YtlndjooddkjnoaaHeld3
set_option linter.unusedVariables false
set_option linter.unusedSimpArgs false
namespace Go.Proofs.Ytlndjooddkjnoaa
open Go.RowKit
theorem store_mr {Y : World} {g n m p f : Nat} {D : Option Addr} (h : Y.heap[g]? = some (.cells #[.int .i64 0, .int .i64 0, .slice none 0 0] 43 (0, 0))) : ∃ F, F = ((Y.setCell ⟨g, 0, none⟩ (.int .i64 n)).setCell ⟨g, 1, none⟩ (.int .i64 m)).setCell ⟨g, 2, none⟩ (.slice D p f) ∧ F.heap[g]? = some (.cells #[.int .i64 n, .int .i64 m, .slice D p f] 43 (0, 0)) ∧ Kq g Y F := by
  refine ⟨_, rfl, ?_, ((Kq.set Y 0 _).trans (Kq.set _ 1 _)).trans (Kq.set _ 2 _)⟩
  have h1 := set_block (k := 0) h (.int .i64 n)
  have h2 := set_block (k := 1) h1 (.int .i64 m)
  have h3 := set_block (k := 2) h2 (.slice D p f)
  simp at h3
  exact h3
set_option maxRecDepth 100000 in
set_option maxHeartbeats 8000000 in
theorem heapTells_walk (A : Option Addr) (n c : Nat) (l : List C) (B : Option Addr) (m d : Nat) (tr : List Int) (r : Int) (D : Option Addr) (p e : Nat) (at_ : List Int) (Aa : Option Addr) (na ca : Nat) (t : List C) (a1 a2 : Int) (w : World)
    (h : IsC w A n c l) (hT : IsI w B m d tr) (hr : i64 r) (hD : IsI w D p e at_) (ht : IsC w Aa na ca t) (ia1 : i64 a1) (ia2 : i64 a2) :
    Calls Try.prog 3 #[.agg #[.slice A n c, .slice B m d, .int .i64 r], .slice D p e, .agg #[.slice Aa na ca, .int .i64 a1, .int .i64 a2]] w (RetV w (.bool true)) := by
  by_cases hb1 : 120 < l.length
  · go_enter Try.func3, Try.ntmps3
    go_upto_region 1 with fail
    refine wp_world' (Φ := fun X => Below w.heap.size w X ∧ HB X w.heap.size l tr r ∧ OB X (w.heap.size + 1) t a1 a2) ⟨(bas _ _).alloc (by simp) _, (HB.box h hT).below (bas _ _), by have := OB.box (a := a1) (b := a2) (ht.below (bas w (.cells #[.slice A n c, .slice B m d, .int .i64 r] 25))); simpa using this⟩ ?_
    rintro X ⟨hbX, hB, hO⟩
    obtain ⟨g1, hg1⟩ : ∃ g1, g1 = w.heap.size + 1 := ⟨_, rfl⟩
    obtain ⟨g0, hg0⟩ : ∃ g0, g0 = w.heap.size := ⟨_, rfl⟩
    rw [← hg1] at hO
    rw [← hg0] at hB
    try rw [← hg1]
    try rw [← hg0]
    clear hg0 hg1
    go_wp2_with fail
    refine (head8_any _).mono ?_
    rintro e w1 ⟨rfl, hbn⟩
    have HB0 := Lib.hid (hB.below hbn)
    have HOq := Lib.hid (hO.below hbn)
    have HbX := Lib.hid (hbX.trans (hbn.mono hbX.size))
    clear hbn hB hO hbX
    generalize w1 = X at *
    obtain ⟨A1, c1, B1, d1, ⟨hC1, hN1⟩, hY1⟩ := HB0.out.open
    obtain ⟨y0, y1, y2, yl⟩ := hY1 _ (Below.refl _ _)
    have k1 : decide ((120 : Int) < (l.length : Int)) = true := by simp; omega
    clear hC1 hN1 hY1
    go_wp2
    refine bodyPost_ret (v := .bool true) (by simp [results, Try.results3, go_sem, *]) rfl ?_
    exact ⟨rfl, HbX.out⟩
  by_cases hb2 : 120 < tr.length
  · go_enter Try.func3, Try.ntmps3
    go_upto_region 1 with fail
    refine wp_world' (Φ := fun X => Below w.heap.size w X ∧ HB X w.heap.size l tr r ∧ OB X (w.heap.size + 1) t a1 a2) ⟨(bas _ _).alloc (by simp) _, (HB.box h hT).below (bas _ _), by have := OB.box (a := a1) (b := a2) (ht.below (bas w (.cells #[.slice A n c, .slice B m d, .int .i64 r] 25))); simpa using this⟩ ?_
    rintro X ⟨hbX, hB, hO⟩
    obtain ⟨g1, hg1⟩ : ∃ g1, g1 = w.heap.size + 1 := ⟨_, rfl⟩
    obtain ⟨g0, hg0⟩ : ∃ g0, g0 = w.heap.size := ⟨_, rfl⟩
    rw [← hg1] at hO
    rw [← hg0] at hB
    try rw [← hg1]
    try rw [← hg0]
    clear hg0 hg1
    go_wp2_with fail
    refine (head8_any _).mono ?_
    rintro e w1 ⟨rfl, hbn⟩
    have HB0 := Lib.hid (hB.below hbn)
    have HOq := Lib.hid (hO.below hbn)
    have HbX := Lib.hid (hbX.trans (hbn.mono hbX.size))
    clear hbn hB hO hbX
    generalize w1 = X at *
    obtain ⟨A1, c1, B1, d1, ⟨hC1, hN1⟩, hY1⟩ := HB0.out.open
    obtain ⟨y0, y1, y2, yl⟩ := hY1 _ (Below.refl _ _)
    have k1 : decide ((120 : Int) < (l.length : Int)) = false := by simp; omega
    have k2 : decide ((120 : Int) < (tr.length : Int)) = true := by simp; omega
    clear hC1 hN1 hY1
    go_wp2
    refine bodyPost_ret (v := .bool true) (by simp [results, Try.results3, go_sem, *]) rfl ?_
    exact ⟨rfl, HbX.out⟩
  have k1 : decide ((120 : Int) < (l.length : Int)) = false := by simp; omega
  have k2 : decide ((120 : Int) < (tr.length : Int)) = false := by simp; omega
  have HD := Lib.hid hD
  go_enter Try.func3, Try.ntmps3
  go_upto_region 1 with fail
  refine wp_world' (Φ := fun X => Below w.heap.size w X ∧ HB X w.heap.size l tr r ∧ OB X (w.heap.size + 1) t a1 a2) ⟨(bas _ _).alloc (by simp) _, (HB.box h hT).below (bas _ _), by have := OB.box (a := a1) (b := a2) (ht.below (bas w (.cells #[.slice A n c, .slice B m d, .int .i64 r] 25))); simpa using this⟩ ?_
  rintro X ⟨hbX, hB, hO⟩
  obtain ⟨g1, hg1⟩ : ∃ g1, g1 = w.heap.size + 1 := ⟨_, rfl⟩
  obtain ⟨g0, hg0⟩ : ∃ g0, g0 = w.heap.size := ⟨_, rfl⟩
  rw [← hg1] at hO
  rw [← hg0] at hB
  try rw [← hg1]
  try rw [← hg0]
  clear hg0 hg1
  go_wp2_with fail
  refine (head8_any _).mono ?_
  rintro e w1 ⟨rfl, hbn⟩
  have HB0 := Lib.hid (hB.below hbn)
  have HOq := Lib.hid (hO.below hbn)
  have HbX := Lib.hid (hbX.trans (hbn.mono hbX.size))
  clear hbn hB hO hbX
  generalize w1 = X at *
  obtain ⟨A1, c1, B1, d1, ⟨hC1, hN1⟩, hY1⟩ := HB0.out.open
  obtain ⟨y0, y1, y2, yl⟩ := hY1 _ (Below.refl _ _)
  clear hC1 hN1 hY1
  go_upto_region 4 with fail
  go_cut [53] from 39 to 53 (fun v wx => v = .bool false ∧ Below X.heap.size X wx)
  case first =>
    obtain ⟨A1, c1, B1, d1, ⟨hC1, hN1⟩, hY1⟩ := HB0.out.open
    obtain ⟨Aq, cq, hCq, hYq⟩ := HOq.out.open
    have hS : ∀ w', Below X.heap.size X w' → w'.cell? ⟨g0, 0, none⟩ = some (.slice A1 l.length c1) ∧ w'.cell? ⟨g0, 1, none⟩ = some (.slice B1 tr.length d1) ∧ w'.cell? ⟨g0, 2, none⟩ = some (.int .i64 r) ∧ w'.cell? ⟨g1, 1, none⟩ = some (.int .i64 a1) := fun w' hb => by
      obtain ⟨p0, p1, p2, _⟩ := hY1 w' hb
      obtain ⟨_, q1, _, _⟩ := hYq w' hb
      exact ⟨p0, p1, p2, q1⟩
    have Hrh := Lib.hid (fun wx (hb : Below X.heap.size X wx) => hRight_any A1 B1 l.length c1 tr.length d1 r l tr wx (hC1.below hb) (hN1.below hb) (by omega) (by omega))
    have Hrq := Lib.hid (fun wx (hb : Below X.heap.size X wx) => qRight_any A1 B1 l.length c1 tr.length d1 r l tr wx (hC1.below hb) (hN1.below hb) (by omega) (by omega))
    have Hnh := Lib.hid (fun wx => hNew_any a1 wx ia1)
    have Hnq := Lib.hid (fun wx => qNew_any a1 wx ia1)
    generalize newF a1 = nf at *
    generalize rightH ⟨l, tr, r⟩ = rb at *
    clear hY1 hYq hC1 hN1 hCq
    refine wp_region_held_drew (S := fun w' => w'.cell? ⟨g0, 0, none⟩ = some (.slice A1 l.length c1) ∧ w'.cell? ⟨g0, 1, none⟩ = some (.slice B1 tr.length d1) ∧ w'.cell? ⟨g0, 2, none⟩ = some (.int .i64 r) ∧ w'.cell? ⟨g1, 1, none⟩ = some (.int .i64 a1)) (by kernel_rfl) ?gs4 ?gr4
    case gs4 => exact hS _ (Below.refl _ _).drew
    case gr4 =>
      intro hHeld
      have HS := Lib.hid hS
      have HV : Hid (Below X.heap.size X X.drew) := Lib.hid ((Below.refl _ _).drew)
      clear hS
      generalize X.drew = V at *

      refine takeH 0 hHeld ?_
      try simp only [Act.put, List.setIfInBounds_toArray, List.set_cons_zero, List.set_cons_succ]
      refine takeH 2 hHeld ?_
      try simp only [Act.put, List.setIfInBounds_toArray, List.set_cons_zero, List.set_cons_succ]
      refine held_one (i := 1) (o := ?oi1u3) (by kernel_rfl) ?hi1u3 (fun K hK => ?rest1u3)
      case hi1u3 => (simp only [List.getElem?_toArray, List.getElem?_cons_succ, List.getElem?_cons_zero]; exact rfl)
      go_simp
      go_at_call 12
      refine (Hrh.out _ HV.out).mono ?_
      rintro e w1 ⟨rfl, hb9⟩
      have H1 := Lib.hid (HV.out.trans (hb9.mono HV.out.size))
      clear hb9
      try go_simp
      have hHeld8 : (fun w' : World => w'.cell? ⟨g0, 0, none⟩ = some (.slice A1 l.length c1) ∧ w'.cell? ⟨g0, 1, none⟩ = some (.slice B1 tr.length d1) ∧ w'.cell? ⟨g0, 2, none⟩ = some (.int .i64 r) ∧ w'.cell? ⟨g1, 1, none⟩ = some (.int .i64 a1)) w1 := HS.out _ H1.out
      refine hK _ _ hHeld8 ?_
      clear hK K hHeld
      have hHeld := hHeld8
      clear hHeld8
      try simp only [Act.put, List.setIfInBounds_toArray, List.set_cons_zero, List.set_cons_succ]
      refine held_one (i := 3) (o := ?oi3u4) (by kernel_rfl) ?hi3u4 (fun K hK => ?rest3u4)
      case hi3u4 => (simp only [List.getElem?_toArray, List.getElem?_cons_succ, List.getElem?_cons_zero]; exact rfl)
      go_simp
      go_at_call 13
      refine (Hrq.out _ H1.out).mono ?_
      rintro e w2 ⟨rfl, hb9⟩
      have H2 := Lib.hid (H1.out.trans (hb9.mono H1.out.size))
      clear hb9
      try go_simp
      have hHeld8 : (fun w' : World => w'.cell? ⟨g0, 0, none⟩ = some (.slice A1 l.length c1) ∧ w'.cell? ⟨g0, 1, none⟩ = some (.slice B1 tr.length d1) ∧ w'.cell? ⟨g0, 2, none⟩ = some (.int .i64 r) ∧ w'.cell? ⟨g1, 1, none⟩ = some (.int .i64 a1)) w2 := HS.out _ H2.out
      refine hK _ _ hHeld8 ?_
      clear hK K hHeld
      have hHeld := hHeld8
      clear hHeld8
      try simp only [Act.put, List.setIfInBounds_toArray, List.set_cons_zero, List.set_cons_succ]
      refine takeH 4 hHeld ?_
      try simp only [Act.put, List.setIfInBounds_toArray, List.set_cons_zero, List.set_cons_succ]
      refine takeH 5 hHeld ?_
      try simp only [Act.put, List.setIfInBounds_toArray, List.set_cons_zero, List.set_cons_succ]
      refine takeH 6 hHeld ?_
      try simp only [Act.put, List.setIfInBounds_toArray, List.set_cons_zero, List.set_cons_succ]
      refine takeH 7 hHeld ?_
      try simp only [Act.put, List.setIfInBounds_toArray, List.set_cons_zero, List.set_cons_succ]
      refine takeH 9 hHeld ?_
      try simp only [Act.put, List.setIfInBounds_toArray, List.set_cons_zero, List.set_cons_succ]
      refine takeH 10 hHeld ?_
      try simp only [Act.put, List.setIfInBounds_toArray, List.set_cons_zero, List.set_cons_succ]
      refine held_one (i := 8) (o := ?oi8u11) (by kernel_rfl) ?hi8u11 (fun K hK => ?rest8u11)
      case hi8u11 => (simp only [List.getElem?_toArray, List.getElem?_cons_succ, List.getElem?_cons_zero]; exact rfl)
      go_simp
      go_at_call 15
      refine (Hnh.out _).mono ?_
      rintro e w3 ⟨rfl, hb9⟩
      have H3 := Lib.hid (H2.out.trans (hb9.mono H2.out.size))
      clear hb9
      try go_simp
      have hHeld8 : (fun w' : World => w'.cell? ⟨g0, 0, none⟩ = some (.slice A1 l.length c1) ∧ w'.cell? ⟨g0, 1, none⟩ = some (.slice B1 tr.length d1) ∧ w'.cell? ⟨g0, 2, none⟩ = some (.int .i64 r) ∧ w'.cell? ⟨g1, 1, none⟩ = some (.int .i64 a1)) w3 := HS.out _ H3.out
      refine hK _ _ hHeld8 ?_
      clear hK K hHeld
      have hHeld := hHeld8
      clear hHeld8
      try simp only [Act.put, List.setIfInBounds_toArray, List.set_cons_zero, List.set_cons_succ]
      refine held_one (i := 11) (o := ?oi11u12) (by kernel_rfl) ?hi11u12 (fun K hK => ?rest11u12)
      case hi11u12 => (simp only [List.getElem?_toArray, List.getElem?_cons_succ, List.getElem?_cons_zero]; exact rfl)
      go_simp
      go_at_call 16
      refine (Hnq.out _).mono ?_
      rintro e w4 ⟨rfl, hb9⟩
      have H4 := Lib.hid (H3.out.trans (hb9.mono H3.out.size))
      clear hb9
      try go_simp
      have hHeld8 : (fun w' : World => w'.cell? ⟨g0, 0, none⟩ = some (.slice A1 l.length c1) ∧ w'.cell? ⟨g0, 1, none⟩ = some (.slice B1 tr.length d1) ∧ w'.cell? ⟨g0, 2, none⟩ = some (.int .i64 r) ∧ w'.cell? ⟨g1, 1, none⟩ = some (.int .i64 a1)) w4 := HS.out _ H4.out
      refine hK _ _ hHeld8 ?_
      clear hK K hHeld
      have hHeld := hHeld8
      clear hHeld8
      try simp only [Act.put, List.setIfInBounds_toArray, List.set_cons_zero, List.set_cons_succ]
      refine held_one (i := 12) (o := ?oi12u13) (by kernel_rfl) ?hi12u13 (fun K hK => ?rest12u13)
      case hi12u13 => (simp only [List.getElem?_toArray, List.getElem?_cons_succ, List.getElem?_cons_zero]; exact rfl)
      go_simp
      go_at_call 14
      refine (new_same _ _).mono ?_
      rintro e w5 ⟨rfl, hb9⟩
      have H5 := Lib.hid (H4.out.trans (hb9.mono H4.out.size))
      clear hb9
      try go_simp
      have hHeld8 : (fun w' : World => w'.cell? ⟨g0, 0, none⟩ = some (.slice A1 l.length c1) ∧ w'.cell? ⟨g0, 1, none⟩ = some (.slice B1 tr.length d1) ∧ w'.cell? ⟨g0, 2, none⟩ = some (.int .i64 r) ∧ w'.cell? ⟨g1, 1, none⟩ = some (.int .i64 a1)) w5 := HS.out _ H5.out
      refine hK _ _ hHeld8 ?_
      clear hK K hHeld
      have hHeld := hHeld8
      clear hHeld8
      try simp only [Act.put, List.setIfInBounds_toArray, List.set_cons_zero, List.set_cons_succ]
      refine takeH 13 hHeld ?_
      try simp only [Act.put, List.setIfInBounds_toArray, List.set_cons_zero, List.set_cons_succ]
      refine takeH 14 hHeld ?_
      try simp only [Act.put, List.setIfInBounds_toArray, List.set_cons_zero, List.set_cons_succ]
      refine wpAnyH_done (by kernel_rfl) ?_ _
      clear hHeld
      go_wp2_with fail
      go_meet
      exact ⟨rfl, H5.out⟩
  obtain ⟨rfl, hbn⟩ := hcut
  replace HB0 := Lib.hid (HB0.out.below hbn)
  replace HOq := Lib.hid (HOq.out.below hbn)
  replace HbX := Lib.hid (HbX.out.trans (hbn.mono HbX.out.size))
  clear hbn
  generalize wc = X at *
  obtain ⟨A1, c1, B1, d1, ⟨hC1, hN1⟩, hY1⟩ := HB0.out.open
  obtain ⟨Aq, cq, hCq, hYq⟩ := HOq.out.open
  have Hrq := Lib.hid (qRight_any A1 B1 l.length c1 tr.length d1 r l tr X hC1 hN1 (by omega) (by omega))
  have HCq := Lib.hid hCq
  have HYq := Lib.hid hYq
  obtain ⟨y0, y1, y2, yl⟩ := hY1 _ (Below.refl _ _)
  clear hC1 hN1 hY1 hCq hYq
  cases hrb : rightH ⟨l, tr, r⟩
  · rw [hrb] at Hrq
    clear hrb
    go_wp2_with (first
      | (go_at_call 13; go_must (refine Hrq.out.mono ?_); rintro e2 w2 ⟨rfl, hbn⟩))
    refine bodyPost_ret (v := .bool true) (by simp [results, Try.results3, go_sem, *]) rfl ?_
    exact ⟨rfl, HbX.out.trans (hbn.mono HbX.out.size)⟩
  rw [hrb] at Hrq
  have hok := rightH_iff.1 hrb
  have Hok := Lib.hid hok
  clear hrb hok
  by_cases hk : 210 < t.length
  · have hkz : decide ((210 : Int) < (t.length : Int)) = true := by simp; omega
    go_wp2_with (first
      | (go_at_call 13; go_must (refine Hrq.out.mono ?_); rintro e2 w2 ⟨rfl, hbn⟩; obtain ⟨z0, z1, z2, zl⟩ := HYq.out _ hbn))
    refine bodyPost_ret (v := .bool true) (by simp [results, Try.results3, go_sem, *]) rfl ?_
    exact ⟨rfl, HbX.out.trans (hbn.mono HbX.out.size)⟩
  have hkz : decide ((210 : Int) < (t.length : Int)) = false := by simp; omega
  have Hri := Lib.hid (fun wx (hb : Below X.heap.size X wx) => rRight_any Aq t.length cq t wx (HCq.out.below hb) (by omega))
  cases hrt : rightB t
  · rw [hrt] at Hri
    clear hrt
    go_wp2_with (first
      | (go_at_call 13; go_must (refine Hrq.out.mono ?_); rintro e2 w2 ⟨rfl, hbn⟩; obtain ⟨z0, z1, z2, zl⟩ := HYq.out _ hbn)
      | (go_at_call 17; go_must (refine (Hri.out _ hbn).mono ?_); rintro e3 w3 ⟨rfl, hbm⟩))
    refine bodyPost_ret (v := .bool true) (by simp [results, Try.results3, go_sem, *]) rfl ?_
    exact ⟨rfl, HbX.out.trans ((hbn.trans (hbm.mono hbn.size)).mono HbX.out.size)⟩
  rw [hrt] at Hri
  have Hrt := Lib.hid hrt
  clear hrt
  go_upto_region 8 with (first
    | (go_at_call 13; go_must (refine Hrq.out.mono ?_); rintro e2 w2 ⟨rfl, hbn⟩; obtain ⟨z0, z1, z2, zl⟩ := HYq.out _ hbn)
    | (go_at_call 17; go_must (refine (Hri.out _ hbn).mono ?_); rintro e3 w3 ⟨rfl, hbm⟩))
  have hbq := hbn.trans (hbm.mono hbn.size)
  replace HB0 := Lib.hid (HB0.out.below hbq)
  replace HOq := Lib.hid (HOq.out.below hbq)
  replace HbX := Lib.hid (HbX.out.trans (hbq.mono HbX.out.size))
  clear y0 y1 y2 yl z0 z1 z2 zl HYq HCq Hri Hrq hbn hbm hbq
  generalize w3 = X at *
  obtain ⟨T, hTok, hTf, hTs⟩ := right_tree Hrt.out
  subst hTf
  clear Hrt
  go_upto_region 8 with fail
  go_cut [8] from 70 to 72 (fun v8 wx => ∃ (D2 : Option Addr) (p2 f2 : Nat), v8 = .slice D2 p2 f2 ∧ IsI wx D2 p2 f2 (fitsF l.length at_) ∧ Below X.heap.size X wx)
  case first =>
    obtain ⟨A1, c1, B1, d1, ⟨hC1, hN1⟩, hY1⟩ := HB0.out.open
    obtain ⟨y0, y1, y2, yl⟩ := hY1 _ (Below.refl _ _)
    clear hY1 hC1 hN1
    go_wp2_with (first | (go_at_call 18; go_must (refine (fits_any A1 B1 D l.length c1 tr.length d1 p e r at_ _ (by omega) (HD.out.below HbX.out)).mono ?_); rintro e4 w4 ⟨D2, p2, f2, rfl, hD2, hbn⟩))
    go_meet
    exact ⟨D2, p2, f2, rfl, hD2, hbn⟩
  obtain ⟨D2, p2, f2, rfl, hD2, hbn⟩ := hcut
  replace HB0 := Lib.hid (HB0.out.below hbn)
  replace HOq := Lib.hid (HOq.out.below hbn)
  replace HbX := Lib.hid (HbX.out.trans (hbn.mono HbX.out.size))
  have HD2 := Lib.hid hD2
  clear hbn hD2 HD
  generalize wc = X at *
  have hF20 := fitsF_len l.length at_
  have hFat := atL_fits l.length at_
  generalize fitsF l.length at_ = F at *
  have HFat := Lib.hid hFat
  have hp2 : p2 ≤ 20 := by have := HD2.out.len; omega
  obtain ⟨okL, dL, hstL⟩ := pRes_ok Hok.out hTok HFat.out
  obtain ⟨okU, hlenU, dU, hstU⟩ := uni_ok okL a1 a2
  have hstW := hstL.trans hstU
  have HputH := Lib.hid (fun (wx : World) (A1 B1 Aq D0 : Option Addr) (c1 d1 cq p0 f0 : Nat) (h1 : IsC wx A1 l.length c1 l) (h2 : IsC wx Aq T.flat.length cq T.flat) (h3 : IsI wx D0 p0 f0 F) => hput9 (B := B1) (d := d1) (r := r) h1 h2 h3 Hok.out hTok hTs (by omega))
  have HputQ := Lib.hid (fun (wx : World) (A1 B1 Aq D0 : Option Addr) (c1 d1 cq p0 f0 : Nat) (h1 : IsC wx A1 l.length c1 l) (h2 : IsC wx Aq T.flat.length cq T.flat) (h3 : IsI wx D0 p0 f0 F) => qput9 (B := B1) (d := d1) (r := r) h1 h2 h3 Hok.out hTok hTs (by omega))
  have hpa : (pAt l T F r).length ≤ 1000 := by
    unfold pAt
    split
    · exact putA_row8 hTok l (by omega)
    · simp
  have hgt : ((getZ (pRes l T F r) a1).getD []).length ≤ 200 := getZ_len9 okL.good a1
  clear hFat hstL hstU
  generalize pAt l T F r = pa at *
  generalize pPl l T F r = pq at *
  generalize pEr l T F r = px at *
  generalize pRes l T F r = L at *
  have HgetH := Lib.hid (fun (wx : World) (A1 B1 : Option Addr) (c1 d1 : Nat) (h1 : IsC wx A1 L.length c1 L) => hget9 (B := B1) (d := d1) h1 okL a1)
  have HgetQ := Lib.hid (fun (wx : World) (A1 B1 : Option Addr) (c1 d1 : Nat) (h1 : IsC wx A1 L.length c1 L) => qget9 (B := B1) (d := d1) h1 okL a1)
  have HuniH := Lib.hid (fun (wx : World) (A1 B1 : Option Addr) (c1 d1 : Nat) (h1 : IsC wx A1 L.length c1 L) (h2 : IsI wx B1 tr.length d1 tr) => huni9 h1 h2 okL a1 a2)
  have HuniQ := Lib.hid (fun (wx : World) (A1 B1 : Option Addr) (c1 d1 : Nat) (h1 : IsC wx A1 L.length c1 L) (h2 : IsI wx B1 tr.length d1 tr) => quni9 h1 h2 okL a1 a2)
  generalize (getZ L a1).isSome = gb at *
  generalize (getZ L a1).getD [] = gt at *
  generalize (uniZ L tr a1 a2).isSome = ub at *
  generalize (uRes L tr a1 a2).1 = U1 at *
  generalize (uRes L tr a1 a2).2 = U2 at *
  have hL1 := okL.tr_len.1
  have hL2 := okL.tr_len.2
  have hU1 := okU.tr_len.1
  have hU2 := okU.tr_len.2
  have OkL := Lib.hid okL
  have OkU := Lib.hid okU
  have HstW := Lib.hid hstW
  clear okL okU hstW hlenU HFat hF20
  go_upto_region 9 with fail
  go_cut [9, 10, 11, 12] from 73 to 82 (fun v9 v10 v11 v12 wx => ∃ (g3 : Nat) (D3 : Option Addr) (D3n D3c : Nat), v9 = .pointer (some ⟨g3, 0, none⟩) ∧ v10 = .int .i64 pq ∧ v11 = .slice D3 D3n D3c ∧ v12 = .int .i64 px ∧ HB wx g3 L tr r ∧ IsI wx D3 D3n D3c pa ∧ Below X.heap.size X wx)
  case first =>
    obtain ⟨A1, c1, B1, d1, ⟨hC1, hN1⟩, hY1⟩ := HB0.out.open
    obtain ⟨y0, y1, y2, yl⟩ := hY1 _ (Below.refl _ _)
    obtain ⟨Aq, cq, hCq, hYq⟩ := HOq.out.open
    obtain ⟨z0, z1, z2, zl⟩ := hYq _ (Below.refl _ _)
    have Hp := Lib.hid (HputH.out X A1 B1 Aq D2 c1 d1 cq p2 f2 hC1 hCq HD2.out)
    have HN1 := Lib.hid hN1
    clear hY1 hYq hC1 hN1 hCq
    go_wp2_with (first | (go_at_call 19; go_must (refine Hp.out.mono ?_); rintro e4 w4 hret; unfold RetP9 at hret; obtain ⟨A5, c5, D5, n5, d5, rfl, hC5, hI5, hbn⟩ := hret))
    go_meet
    exact ⟨w4.heap.size, D5, n5, d5, rfl, rfl, rfl, rfl, ⟨A5, c5, B1, d1, alloc_at rfl, hC5.below (bas _ _), (HN1.out.below hbn).below (bas _ _)⟩, hI5.below (bas _ _), hbn.alloc hbn.size _⟩
  obtain ⟨g3, D3, D3n, D3c, rfl, rfl, rfl, rfl, h1, h2, hbn⟩ := hcut
  replace HB0 := Lib.hid (HB0.out.below hbn)
  replace HOq := Lib.hid (HOq.out.below hbn)
  replace HD2 := Lib.hid (HD2.out.below hbn)
  replace HbX := Lib.hid (HbX.out.trans (hbn.mono HbX.out.size))
  clear hbn
  generalize wc = X at *
  have HBA := Lib.hid h1
  have HIA := Lib.hid h2
  clear h1 h2
  go_upto_region 10 with fail
  go_cut [13, 14, 15, 16] from 83 to 92 (fun v9 v10 v11 v12 wx => ∃ (g4 : Nat) (D4 : Option Addr) (D4n D4c : Nat), v9 = .pointer (some ⟨g4, 0, none⟩) ∧ v10 = .int .i64 pq ∧ v11 = .slice D4 D4n D4c ∧ v12 = .int .i64 px ∧ HB wx g4 L tr r ∧ IsI wx D4 D4n D4c pa ∧ Below X.heap.size X wx)
  case first =>
    obtain ⟨A1, c1, B1, d1, ⟨hC1, hN1⟩, hY1⟩ := HB0.out.open
    obtain ⟨y0, y1, y2, yl⟩ := hY1 _ (Below.refl _ _)
    obtain ⟨Aq, cq, hCq, hYq⟩ := HOq.out.open
    obtain ⟨z0, z1, z2, zl⟩ := hYq _ (Below.refl _ _)
    have Hp := Lib.hid (HputQ.out X A1 B1 Aq D2 c1 d1 cq p2 f2 hC1 hCq HD2.out)
    have HN1 := Lib.hid hN1
    clear hY1 hYq hC1 hN1 hCq
    go_wp2_with (first | (go_at_call 20; go_must (refine Hp.out.mono ?_); rintro e4 w4 hret; unfold RetP9 at hret; obtain ⟨A5, c5, D5, n5, d5, rfl, hC5, hI5, hbn⟩ := hret))
    go_meet
    exact ⟨w4.heap.size, D5, n5, d5, rfl, rfl, rfl, rfl, ⟨A5, c5, B1, d1, alloc_at rfl, hC5.below (bas _ _), (HN1.out.below hbn).below (bas _ _)⟩, hI5.below (bas _ _), hbn.alloc hbn.size _⟩
  obtain ⟨g4, D4, D4n, D4c, rfl, rfl, rfl, rfl, h1, h2, hbn⟩ := hcut
  replace HB0 := Lib.hid (HB0.out.below hbn)
  replace HOq := Lib.hid (HOq.out.below hbn)
  replace HD2 := Lib.hid (HD2.out.below hbn)
  replace HBA := Lib.hid (HBA.out.below hbn)
  replace HIA := Lib.hid (HIA.out.below hbn)
  replace HbX := Lib.hid (HbX.out.trans (hbn.mono HbX.out.size))
  clear hbn
  generalize wc = X at *
  have HBE := Lib.hid h1
  have HIE := Lib.hid h2
  clear h1 h2
  go_upto_region 11 with fail
  go_cut [17, 18] from 93 to 99 (fun v13 v14 wx => ∃ (A5 : Option Addr) (A5n A5c : Nat), v13 = .slice A5 A5n A5c ∧ v14 = .bool gb ∧ IsC wx A5 A5n A5c gt ∧ Below X.heap.size X wx)
  case first =>
    obtain ⟨A1, c1, B1, d1, ⟨hC1, hN1⟩, hY1⟩ := HBA.out.open
    obtain ⟨y0, y1, y2, yl⟩ := hY1 _ (Below.refl _ _)
    obtain ⟨Aq, cq, hCq, hYq⟩ := HOq.out.open
    obtain ⟨z0, z1, z2, zl⟩ := hYq _ (Below.refl _ _)
    have Hp := Lib.hid (HgetH.out X A1 B1 c1 d1 hC1)
    clear hY1 hYq hC1 hN1 hCq
    go_wp2_with (first | (go_at_call 21; go_must (refine Hp.out.mono ?_); rintro e4 w4 hret; unfold RetG9 at hret; obtain ⟨A5, n5, c5, rfl, hC5, hbn⟩ := hret))
    go_meet
    exact ⟨A5, n5, c5, rfl, rfl, hC5, hbn⟩
  obtain ⟨A5, A5n, A5c, rfl, rfl, h1, hbn⟩ := hcut
  replace HB0 := Lib.hid (HB0.out.below hbn)
  replace HOq := Lib.hid (HOq.out.below hbn)
  replace HD2 := Lib.hid (HD2.out.below hbn)
  replace HBA := Lib.hid (HBA.out.below hbn)
  replace HIA := Lib.hid (HIA.out.below hbn)
  replace HBE := Lib.hid (HBE.out.below hbn)
  replace HIE := Lib.hid (HIE.out.below hbn)
  replace HbX := Lib.hid (HbX.out.trans (hbn.mono HbX.out.size))
  clear hbn
  generalize wc = X at *
  have HGA := Lib.hid h1
  clear h1
  go_upto_region 12 with fail
  go_cut [19, 20] from 100 to 106 (fun v13 v14 wx => ∃ (A6 : Option Addr) (A6n A6c : Nat), v13 = .slice A6 A6n A6c ∧ v14 = .bool gb ∧ IsC wx A6 A6n A6c gt ∧ Below X.heap.size X wx)
  case first =>
    obtain ⟨A1, c1, B1, d1, ⟨hC1, hN1⟩, hY1⟩ := HBE.out.open
    obtain ⟨y0, y1, y2, yl⟩ := hY1 _ (Below.refl _ _)
    obtain ⟨Aq, cq, hCq, hYq⟩ := HOq.out.open
    obtain ⟨z0, z1, z2, zl⟩ := hYq _ (Below.refl _ _)
    have Hp := Lib.hid (HgetQ.out X A1 B1 c1 d1 hC1)
    clear hY1 hYq hC1 hN1 hCq
    go_wp2_with (first | (go_at_call 22; go_must (refine Hp.out.mono ?_); rintro e4 w4 hret; unfold RetG9 at hret; obtain ⟨A5, n5, c5, rfl, hC5, hbn⟩ := hret))
    go_meet
    exact ⟨A5, n5, c5, rfl, rfl, hC5, hbn⟩
  obtain ⟨A6, A6n, A6c, rfl, rfl, h1, hbn⟩ := hcut
  replace HB0 := Lib.hid (HB0.out.below hbn)
  replace HOq := Lib.hid (HOq.out.below hbn)
  replace HD2 := Lib.hid (HD2.out.below hbn)
  replace HBA := Lib.hid (HBA.out.below hbn)
  replace HIA := Lib.hid (HIA.out.below hbn)
  replace HBE := Lib.hid (HBE.out.below hbn)
  replace HIE := Lib.hid (HIE.out.below hbn)
  replace HGA := Lib.hid (HGA.out.below hbn)
  replace HbX := Lib.hid (HbX.out.trans (hbn.mono HbX.out.size))
  clear hbn
  generalize wc = X at *
  have HGE := Lib.hid h1
  clear h1
  go_upto_region 13 with fail
  go_cut [21, 22] from 107 to 115 (fun v13 v14 wx => ∃ g5 : Nat, v13 = .pointer (some ⟨g5, 0, none⟩) ∧ v14 = .bool ub ∧ HB wx g5 U1 U2 r ∧ Below X.heap.size X wx)
  case first =>
    obtain ⟨A1, c1, B1, d1, ⟨hC1, hN1⟩, hY1⟩ := HBA.out.open
    obtain ⟨y0, y1, y2, yl⟩ := hY1 _ (Below.refl _ _)
    obtain ⟨Aq, cq, hCq, hYq⟩ := HOq.out.open
    obtain ⟨z0, z1, z2, zl⟩ := hYq _ (Below.refl _ _)
    have Hp := Lib.hid (HuniH.out X A1 B1 c1 d1 hC1 hN1)
    clear hY1 hYq hC1 hN1 hCq
    go_wp2_with (first | (go_at_call 23; go_must (refine Hp.out.mono ?_); rintro e4 w4 hret; unfold RetU9 at hret; obtain ⟨A7, c7, B7, d7, rfl, hC7, hI7, hbn⟩ := hret))
    go_meet
    exact ⟨w4.heap.size, rfl, rfl, ⟨A7, c7, B7, d7, alloc_at rfl, hC7.below (bas _ _), hI7.below (bas _ _)⟩, hbn.alloc hbn.size _⟩
  obtain ⟨g5, rfl, rfl, h1, hbn⟩ := hcut
  replace HB0 := Lib.hid (HB0.out.below hbn)
  replace HOq := Lib.hid (HOq.out.below hbn)
  replace HD2 := Lib.hid (HD2.out.below hbn)
  replace HBA := Lib.hid (HBA.out.below hbn)
  replace HIA := Lib.hid (HIA.out.below hbn)
  replace HBE := Lib.hid (HBE.out.below hbn)
  replace HIE := Lib.hid (HIE.out.below hbn)
  replace HGA := Lib.hid (HGA.out.below hbn)
  replace HGE := Lib.hid (HGE.out.below hbn)
  replace HbX := Lib.hid (HbX.out.trans (hbn.mono HbX.out.size))
  clear hbn
  generalize wc = X at *
  have HBR := Lib.hid h1
  clear h1
  go_upto_region 14 with fail
  go_cut [23, 24] from 116 to 124 (fun v13 v14 wx => ∃ g6 : Nat, v13 = .pointer (some ⟨g6, 0, none⟩) ∧ v14 = .bool ub ∧ HB wx g6 U1 U2 r ∧ Below X.heap.size X wx)
  case first =>
    obtain ⟨A1, c1, B1, d1, ⟨hC1, hN1⟩, hY1⟩ := HBE.out.open
    obtain ⟨y0, y1, y2, yl⟩ := hY1 _ (Below.refl _ _)
    obtain ⟨Aq, cq, hCq, hYq⟩ := HOq.out.open
    obtain ⟨z0, z1, z2, zl⟩ := hYq _ (Below.refl _ _)
    have Hp := Lib.hid (HuniQ.out X A1 B1 c1 d1 hC1 hN1)
    clear hY1 hYq hC1 hN1 hCq
    go_wp2_with (first | (go_at_call 24; go_must (refine Hp.out.mono ?_); rintro e4 w4 hret; unfold RetU9 at hret; obtain ⟨A7, c7, B7, d7, rfl, hC7, hI7, hbn⟩ := hret))
    go_meet
    exact ⟨w4.heap.size, rfl, rfl, ⟨A7, c7, B7, d7, alloc_at rfl, hC7.below (bas _ _), hI7.below (bas _ _)⟩, hbn.alloc hbn.size _⟩
  obtain ⟨g6, rfl, rfl, h1, hbn⟩ := hcut
  replace HB0 := Lib.hid (HB0.out.below hbn)
  replace HOq := Lib.hid (HOq.out.below hbn)
  replace HD2 := Lib.hid (HD2.out.below hbn)
  replace HBA := Lib.hid (HBA.out.below hbn)
  replace HIA := Lib.hid (HIA.out.below hbn)
  replace HBE := Lib.hid (HBE.out.below hbn)
  replace HIE := Lib.hid (HIE.out.below hbn)
  replace HGA := Lib.hid (HGA.out.below hbn)
  replace HGE := Lib.hid (HGE.out.below hbn)
  replace HBR := Lib.hid (HBR.out.below hbn)
  replace HbX := Lib.hid (HbX.out.trans (hbn.mono HbX.out.size))
  clear hbn
  generalize wc = X at *
  have HBT := Lib.hid h1
  clear h1
  go_upto_region 15 with fail
  go_cut [25, 26] from 125 to 130 (fun v13 v14 wx => ∃ ga gb : Nat, v13 = .pointer (some ⟨ga, 0, none⟩) ∧ v14 = .pointer (some ⟨gb, 0, none⟩) ∧ wx.heap[ga]? = some (.cells #[.int .i64 l.length, .int .i64 tr.length, .slice D2 p2 f2] 43 (0, 0)) ∧ wx.heap[gb]? = some (.cells #[.int .i64 l.length, .int .i64 tr.length, .slice D2 p2 f2] 43 (0, 0)) ∧ Below X.heap.size X wx)
  case first =>
    obtain ⟨A1, c1, B1, d1, ⟨hC1, hN1⟩, hY1⟩ := HB0.out.open
    have hS : ∀ w', Below X.heap.size X w' → w'.cell? ⟨g0, 0, none⟩ = some (.slice A1 l.length c1) ∧ w'.cell? ⟨g0, 1, none⟩ = some (.slice B1 tr.length d1) ∧ w'.cell? ⟨g0, 2, none⟩ = some (.int .i64 r) := fun w' hb => by
      obtain ⟨p0, p1, p2, _⟩ := hY1 w' hb
      exact ⟨p0, p1, p2⟩
    clear hC1 hN1 hY1
    refine wp_region_held_drew (S := fun w' => w'.cell? ⟨g0, 0, none⟩ = some (.slice A1 l.length c1) ∧ w'.cell? ⟨g0, 1, none⟩ = some (.slice B1 tr.length d1) ∧ w'.cell? ⟨g0, 2, none⟩ = some (.int .i64 r)) (by kernel_rfl) ?gs15 ?gr15
    case gs15 => exact hS _ (Below.refl _ _).drew
    case gr15 =>
      intro hHeld
      have HS := Lib.hid hS
      have HV : Hid (Below X.heap.size X X.drew) := Lib.hid ((Below.refl _ _).drew)
      clear hS
      generalize X.drew = V at *

      refine takeH 0 hHeld ?_
      try simp only [Act.put, List.setIfInBounds_toArray, List.set_cons_zero, List.set_cons_succ]
      refine takeH 1 hHeld ?_
      try simp only [Act.put, List.setIfInBounds_toArray, List.set_cons_zero, List.set_cons_succ]
      refine takeH 3 hHeld ?_
      try simp only [Act.put, List.setIfInBounds_toArray, List.set_cons_zero, List.set_cons_succ]
      refine takeH 4 hHeld ?_
      try simp only [Act.put, List.setIfInBounds_toArray, List.set_cons_zero, List.set_cons_succ]
      refine held_three (i := 2) (j := 6) (k := 7) (oi := ?oi2u20) (oj := ?oi6u20) (ok := ?oi7u20) (by kernel_rfl) ?hi2u20 ?hi6u20 ?hi7u20 (fun K hK => ?rest2u20) (fun K hK => ?rest6u20) (fun K hK => ?rest7u20)
      case hi2u20 => (simp only [List.getElem?_toArray, List.getElem?_cons_succ, List.getElem?_cons_zero]; exact rfl)
      case hi6u20 => (simp only [List.getElem?_toArray, List.getElem?_cons_succ, List.getElem?_cons_zero]; exact rfl)
      case hi7u20 => (simp only [List.getElem?_toArray, List.getElem?_cons_succ, List.getElem?_cons_zero]; exact rfl)
      · go_simp
        go_at_call 25
        refine (hMark_any A1 B1 D2 l.length c1 tr.length d1 p2 f2 r _ (by omega) (by omega)).mono ?_
        rintro e v1 ⟨rfl, hbq⟩
        have HW1 := Lib.hid (HV.out.trans (hbq.mono HV.out.size))
        clear hbq
        try go_simp
        refine hK _ _ (HS.out _ HW1.out) ?_
        clear hK K hHeld
        have hHeld := HS.out _ HW1.out
        try simp only [Act.put, List.setIfInBounds_toArray, List.set_cons_zero, List.set_cons_succ]
        refine held_three (i := 5) (j := 6) (k := 7) (oi := ?oi5u21) (oj := ?oi6u21) (ok := ?oi7u21) (by kernel_rfl) ?hi5u21 ?hi6u21 ?hi7u21 (fun K hK => ?rest5u21) (fun K hK => ?rest6u21) (fun K hK => ?rest7u21)
        case hi5u21 => (simp only [List.getElem?_toArray, List.getElem?_cons_succ, List.getElem?_cons_zero]; exact rfl)
        case hi6u21 => (simp only [List.getElem?_toArray, List.getElem?_cons_succ, List.getElem?_cons_zero]; exact rfl)
        case hi7u21 => (simp only [List.getElem?_toArray, List.getElem?_cons_succ, List.getElem?_cons_zero]; exact rfl)
        · go_simp
          go_at_call 26
          refine (qMark_any A1 B1 D2 l.length c1 tr.length d1 p2 f2 r _ (by omega) (by omega)).mono ?_
          rintro e v2 ⟨rfl, hbq⟩
          have HW2 := Lib.hid (HW1.out.trans (hbq.mono HW1.out.size))
          clear hbq
          try go_simp
          refine hK _ _ (HS.out _ HW2.out) ?_
          clear hK K hHeld
          have hHeld := HS.out _ HW2.out
          try simp only [Act.put, List.setIfInBounds_toArray, List.set_cons_zero, List.set_cons_succ]
          refine held_two (i := 6) (j := 7) (oi := ?oi6u22) (oj := ?oi7u22) (by kernel_rfl) ?hi6u22 ?hi7u22 (fun K hK => ?rest6u22) (fun K hK => ?rest7u22)
          case hi6u22 => (simp only [List.getElem?_toArray, List.getElem?_cons_succ, List.getElem?_cons_zero]; exact rfl)
          case hi7u22 => (simp only [List.getElem?_toArray, List.getElem?_cons_succ, List.getElem?_cons_zero]; exact rfl)
          · have HW3 := Lib.hid (HW2.out.alloc HW2.out.size (.cells #[.int .i64 0, .int .i64 0, .slice none 0 0] 43))
            go_simp
            refine hK _ _ (HS.out _ HW3.out) ?_
            clear hK K hHeld
            have hHeld := HS.out _ HW3.out
            try simp only [Act.put, List.setIfInBounds_toArray, List.set_cons_zero, List.set_cons_succ]
            have Za3 := Lib.hid (show (v2.alloc (.cells #[.int .i64 0, .int .i64 0, .slice none 0 0] 43)).heap[v2.heap.size]? = some (.cells #[.int .i64 0, .int .i64 0, .slice none 0 0] 43 (0, 0)) from alloc_at rfl)
            have Na : Hid (X.heap.size ≤ v2.heap.size) := Lib.hid HW2.out.size
            generalize v2.alloc (.cells #[.int .i64 0, .int .i64 0, .slice none 0 0] 43) = v3 at *
            generalize v2.heap.size = ga at *
            refine held_one (i := 7) (o := ?oi7u23) (by kernel_rfl) ?hi7u23 (fun K hK => ?rest7u23)
            case hi7u23 => (simp only [List.getElem?_toArray, List.getElem?_cons_succ, List.getElem?_cons_zero]; exact rfl)
            have HW4 := Lib.hid (HW3.out.alloc HW3.out.size (.cells #[.int .i64 0, .int .i64 0, .slice none 0 0] 43))
            go_simp
            refine hK _ _ (HS.out _ HW4.out) ?_
            clear hK K hHeld
            have hHeld := HS.out _ HW4.out
            try simp only [Act.put, List.setIfInBounds_toArray, List.set_cons_zero, List.set_cons_succ]
            have Za4 := Lib.hid (((bas v3 (.cells #[.int .i64 0, .int .i64 0, .slice none 0 0] 43)).block _ (block_lt Za3.out)).trans Za3.out)
            have Zb4 := Lib.hid (show (v3.alloc (.cells #[.int .i64 0, .int .i64 0, .slice none 0 0] 43)).heap[v3.heap.size]? = some (.cells #[.int .i64 0, .int .i64 0, .slice none 0 0] 43 (0, 0)) from alloc_at rfl)
            have Nb : Hid (X.heap.size ≤ v3.heap.size) := Lib.hid HW3.out.size
            have Nd : Hid (ga ≠ v3.heap.size) := Lib.hid (Nat.ne_of_lt (block_lt Za3.out))
            generalize v3.alloc (.cells #[.int .i64 0, .int .i64 0, .slice none 0 0] 43) = v4 at *
            generalize v3.heap.size = gb at *
            have Nd2 : Hid (ga ≠ gb) := Lib.hid Nd.out
            refine held_one (i := 8) (o := ?oi8u24) (by kernel_rfl) ?hi8u24 (fun K hK => ?rest8u24)
            case hi8u24 => (simp only [List.getElem?_toArray, List.getElem?_cons_succ, List.getElem?_cons_zero]; exact rfl)
            obtain ⟨z0, z1, z2, zl, zf0, zf1, zf2⟩ := cells3 Za4.out
            obtain ⟨F9, hF, hm, hk⟩ := store_mr (n := l.length) (m := tr.length) (D := D2) (p := p2) (f := f2) Za4.out
            have Za5 := Lib.hid hm
            have Zb5 := Lib.hid ((hk.old gb (block_lt Zb4.out) (fun e => Nd2.out e.symm)).trans Zb4.out)
            have HW5 := Lib.hid (HW4.out.trans (hk.bel.mono Na.out))
            go_simp
            rw [← hF]
            refine hK _ _ (HS.out _ HW5.out) ?_
            clear hK K hHeld
            have hHeld := HS.out _ HW5.out
            try simp only [Act.put, List.setIfInBounds_toArray, List.set_cons_zero, List.set_cons_succ]
            clear hF hk hm z0 z1 z2 zl zf0 zf1 zf2
            generalize F9 = v5 at *
            refine held_one (i := 9) (o := ?oi9u25) (by kernel_rfl) ?hi9u25 (fun K hK => ?rest9u25)
            case hi9u25 => (simp only [List.getElem?_toArray, List.getElem?_cons_succ, List.getElem?_cons_zero]; exact rfl)
            obtain ⟨z0, z1, z2, zl, zf0, zf1, zf2⟩ := cells3 Zb5.out
            obtain ⟨F9, hF, hm, hk⟩ := store_mr (n := l.length) (m := tr.length) (D := D2) (p := p2) (f := f2) Zb5.out
            have Zb6 := Lib.hid hm
            have Za6 := Lib.hid ((hk.old ga (block_lt Za5.out) Nd2.out).trans Za5.out)
            have HW6 := Lib.hid (HW5.out.trans (hk.bel.mono Nb.out))
            go_simp
            rw [← hF]
            refine hK _ _ (HS.out _ HW6.out) ?_
            clear hK K hHeld
            have hHeld := HS.out _ HW6.out
            try simp only [Act.put, List.setIfInBounds_toArray, List.set_cons_zero, List.set_cons_succ]
            clear hF hk hm z0 z1 z2 zl zf0 zf1 zf2
            generalize F9 = v6 at *
            refine wpAnyH_done (by kernel_rfl) ?_ _
            clear hHeld
            go_wp2_with fail
            go_meet
            exact ⟨ga, gb, rfl, rfl, Za6.out, Zb6.out, HW6.out⟩
          · have HW3 := Lib.hid (HW2.out.alloc HW2.out.size (.cells #[.int .i64 0, .int .i64 0, .slice none 0 0] 43))
            go_simp
            refine hK _ _ (HS.out _ HW3.out) ?_
            clear hK K hHeld
            have hHeld := HS.out _ HW3.out
            try simp only [Act.put, List.setIfInBounds_toArray, List.set_cons_zero, List.set_cons_succ]
            have Zb3 := Lib.hid (show (v2.alloc (.cells #[.int .i64 0, .int .i64 0, .slice none 0 0] 43)).heap[v2.heap.size]? = some (.cells #[.int .i64 0, .int .i64 0, .slice none 0 0] 43 (0, 0)) from alloc_at rfl)
            have Nb : Hid (X.heap.size ≤ v2.heap.size) := Lib.hid HW2.out.size
            generalize v2.alloc (.cells #[.int .i64 0, .int .i64 0, .slice none 0 0] 43) = v3 at *
            generalize v2.heap.size = gb at *
            refine held_one (i := 6) (o := ?oi6u26) (by kernel_rfl) ?hi6u26 (fun K hK => ?rest6u26)
            case hi6u26 => (simp only [List.getElem?_toArray, List.getElem?_cons_succ, List.getElem?_cons_zero]; exact rfl)
            have HW4 := Lib.hid (HW3.out.alloc HW3.out.size (.cells #[.int .i64 0, .int .i64 0, .slice none 0 0] 43))
            go_simp
            refine hK _ _ (HS.out _ HW4.out) ?_
            clear hK K hHeld
            have hHeld := HS.out _ HW4.out
            try simp only [Act.put, List.setIfInBounds_toArray, List.set_cons_zero, List.set_cons_succ]
            have Zb4 := Lib.hid (((bas v3 (.cells #[.int .i64 0, .int .i64 0, .slice none 0 0] 43)).block _ (block_lt Zb3.out)).trans Zb3.out)
            have Za4 := Lib.hid (show (v3.alloc (.cells #[.int .i64 0, .int .i64 0, .slice none 0 0] 43)).heap[v3.heap.size]? = some (.cells #[.int .i64 0, .int .i64 0, .slice none 0 0] 43 (0, 0)) from alloc_at rfl)
            have Na : Hid (X.heap.size ≤ v3.heap.size) := Lib.hid HW3.out.size
            have Nd : Hid (gb ≠ v3.heap.size) := Lib.hid (Nat.ne_of_lt (block_lt Zb3.out))
            generalize v3.alloc (.cells #[.int .i64 0, .int .i64 0, .slice none 0 0] 43) = v4 at *
            generalize v3.heap.size = ga at *
            have Nd2 : Hid (ga ≠ gb) := Lib.hid (fun e => Nd.out e.symm)
            refine held_one (i := 8) (o := ?oi8u27) (by kernel_rfl) ?hi8u27 (fun K hK => ?rest8u27)
            case hi8u27 => (simp only [List.getElem?_toArray, List.getElem?_cons_succ, List.getElem?_cons_zero]; exact rfl)
            obtain ⟨z0, z1, z2, zl, zf0, zf1, zf2⟩ := cells3 Za4.out
            obtain ⟨F9, hF, hm, hk⟩ := store_mr (n := l.length) (m := tr.length) (D := D2) (p := p2) (f := f2) Za4.out
            have Za5 := Lib.hid hm
            have Zb5 := Lib.hid ((hk.old gb (block_lt Zb4.out) (fun e => Nd2.out e.symm)).trans Zb4.out)
            have HW5 := Lib.hid (HW4.out.trans (hk.bel.mono Na.out))
            go_simp
            rw [← hF]
            refine hK _ _ (HS.out _ HW5.out) ?_
            clear hK K hHeld
            have hHeld := HS.out _ HW5.out
            try simp only [Act.put, List.setIfInBounds_toArray, List.set_cons_zero, List.set_cons_succ]
            clear hF hk hm z0 z1 z2 zl zf0 zf1 zf2
            generalize F9 = v5 at *
            refine held_one (i := 9) (o := ?oi9u28) (by kernel_rfl) ?hi9u28 (fun K hK => ?rest9u28)
            case hi9u28 => (simp only [List.getElem?_toArray, List.getElem?_cons_succ, List.getElem?_cons_zero]; exact rfl)
            obtain ⟨z0, z1, z2, zl, zf0, zf1, zf2⟩ := cells3 Zb5.out
            obtain ⟨F9, hF, hm, hk⟩ := store_mr (n := l.length) (m := tr.length) (D := D2) (p := p2) (f := f2) Zb5.out
            have Zb6 := Lib.hid hm
            have Za6 := Lib.hid ((hk.old ga (block_lt Za5.out) Nd2.out).trans Za5.out)
            have HW6 := Lib.hid (HW5.out.trans (hk.bel.mono Nb.out))
            go_simp
            rw [← hF]
            refine hK _ _ (HS.out _ HW6.out) ?_
            clear hK K hHeld
            have hHeld := HS.out _ HW6.out
            try simp only [Act.put, List.setIfInBounds_toArray, List.set_cons_zero, List.set_cons_succ]
            clear hF hk hm z0 z1 z2 zl zf0 zf1 zf2
            generalize F9 = v6 at *
            refine wpAnyH_done (by kernel_rfl) ?_ _
            clear hHeld
            go_wp2_with fail
            go_meet
            exact ⟨ga, gb, rfl, rfl, Za6.out, Zb6.out, HW6.out⟩
        · have HW2 := Lib.hid (HW1.out.alloc HW1.out.size (.cells #[.int .i64 0, .int .i64 0, .slice none 0 0] 43))
          go_simp
          refine hK _ _ (HS.out _ HW2.out) ?_
          clear hK K hHeld
          have hHeld := HS.out _ HW2.out
          try simp only [Act.put, List.setIfInBounds_toArray, List.set_cons_zero, List.set_cons_succ]
          have Za2 := Lib.hid (show (v1.alloc (.cells #[.int .i64 0, .int .i64 0, .slice none 0 0] 43)).heap[v1.heap.size]? = some (.cells #[.int .i64 0, .int .i64 0, .slice none 0 0] 43 (0, 0)) from alloc_at rfl)
          have Na : Hid (X.heap.size ≤ v1.heap.size) := Lib.hid HW1.out.size
          generalize v1.alloc (.cells #[.int .i64 0, .int .i64 0, .slice none 0 0] 43) = v2 at *
          generalize v1.heap.size = ga at *
          refine held_two (i := 5) (j := 7) (oi := ?oi5u29) (oj := ?oi7u29) (by kernel_rfl) ?hi5u29 ?hi7u29 (fun K hK => ?rest5u29) (fun K hK => ?rest7u29)
          case hi5u29 => (simp only [List.getElem?_toArray, List.getElem?_cons_succ, List.getElem?_cons_zero]; exact rfl)
          case hi7u29 => (simp only [List.getElem?_toArray, List.getElem?_cons_succ, List.getElem?_cons_zero]; exact rfl)
          · go_simp
            go_at_call 26
            refine (qMark_any A1 B1 D2 l.length c1 tr.length d1 p2 f2 r _ (by omega) (by omega)).mono ?_
            rintro e v3 ⟨rfl, hbq⟩
            have HW3 := Lib.hid (HW2.out.trans (hbq.mono HW2.out.size))
            have Za3 := Lib.hid ((hbq.block _ (block_lt Za2.out)).trans Za2.out)
            clear hbq
            try go_simp
            refine hK _ _ (HS.out _ HW3.out) ?_
            clear hK K hHeld
            have hHeld := HS.out _ HW3.out
            try simp only [Act.put, List.setIfInBounds_toArray, List.set_cons_zero, List.set_cons_succ]
            refine held_one (i := 7) (o := ?oi7u30) (by kernel_rfl) ?hi7u30 (fun K hK => ?rest7u30)
            case hi7u30 => (simp only [List.getElem?_toArray, List.getElem?_cons_succ, List.getElem?_cons_zero]; exact rfl)
            have HW4 := Lib.hid (HW3.out.alloc HW3.out.size (.cells #[.int .i64 0, .int .i64 0, .slice none 0 0] 43))
            go_simp
            refine hK _ _ (HS.out _ HW4.out) ?_
            clear hK K hHeld
            have hHeld := HS.out _ HW4.out
            try simp only [Act.put, List.setIfInBounds_toArray, List.set_cons_zero, List.set_cons_succ]
            have Za4 := Lib.hid (((bas v3 (.cells #[.int .i64 0, .int .i64 0, .slice none 0 0] 43)).block _ (block_lt Za3.out)).trans Za3.out)
            have Zb4 := Lib.hid (show (v3.alloc (.cells #[.int .i64 0, .int .i64 0, .slice none 0 0] 43)).heap[v3.heap.size]? = some (.cells #[.int .i64 0, .int .i64 0, .slice none 0 0] 43 (0, 0)) from alloc_at rfl)
            have Nb : Hid (X.heap.size ≤ v3.heap.size) := Lib.hid HW3.out.size
            have Nd : Hid (ga ≠ v3.heap.size) := Lib.hid (Nat.ne_of_lt (block_lt Za3.out))
            generalize v3.alloc (.cells #[.int .i64 0, .int .i64 0, .slice none 0 0] 43) = v4 at *
            generalize v3.heap.size = gb at *
            have Nd2 : Hid (ga ≠ gb) := Lib.hid Nd.out
            refine held_one (i := 8) (o := ?oi8u31) (by kernel_rfl) ?hi8u31 (fun K hK => ?rest8u31)
            case hi8u31 => (simp only [List.getElem?_toArray, List.getElem?_cons_succ, List.getElem?_cons_zero]; exact rfl)
            obtain ⟨z0, z1, z2, zl, zf0, zf1, zf2⟩ := cells3 Za4.out
            obtain ⟨F9, hF, hm, hk⟩ := store_mr (n := l.length) (m := tr.length) (D := D2) (p := p2) (f := f2) Za4.out
            have Za5 := Lib.hid hm
            have Zb5 := Lib.hid ((hk.old gb (block_lt Zb4.out) (fun e => Nd2.out e.symm)).trans Zb4.out)
            have HW5 := Lib.hid (HW4.out.trans (hk.bel.mono Na.out))
            go_simp
            rw [← hF]
            refine hK _ _ (HS.out _ HW5.out) ?_
            clear hK K hHeld
            have hHeld := HS.out _ HW5.out
            try simp only [Act.put, List.setIfInBounds_toArray, List.set_cons_zero, List.set_cons_succ]
            clear hF hk hm z0 z1 z2 zl zf0 zf1 zf2
            generalize F9 = v5 at *
            refine held_one (i := 9) (o := ?oi9u32) (by kernel_rfl) ?hi9u32 (fun K hK => ?rest9u32)
            case hi9u32 => (simp only [List.getElem?_toArray, List.getElem?_cons_succ, List.getElem?_cons_zero]; exact rfl)
            obtain ⟨z0, z1, z2, zl, zf0, zf1, zf2⟩ := cells3 Zb5.out
            obtain ⟨F9, hF, hm, hk⟩ := store_mr (n := l.length) (m := tr.length) (D := D2) (p := p2) (f := f2) Zb5.out
            have Zb6 := Lib.hid hm
            have Za6 := Lib.hid ((hk.old ga (block_lt Za5.out) Nd2.out).trans Za5.out)
            have HW6 := Lib.hid (HW5.out.trans (hk.bel.mono Nb.out))
            go_simp
            rw [← hF]
            refine hK _ _ (HS.out _ HW6.out) ?_
            clear hK K hHeld
            have hHeld := HS.out _ HW6.out
            try simp only [Act.put, List.setIfInBounds_toArray, List.set_cons_zero, List.set_cons_succ]
            clear hF hk hm z0 z1 z2 zl zf0 zf1 zf2
            generalize F9 = v6 at *
            refine wpAnyH_done (by kernel_rfl) ?_ _
            clear hHeld
            go_wp2_with fail
            go_meet
            exact ⟨ga, gb, rfl, rfl, Za6.out, Zb6.out, HW6.out⟩
          · have HW3 := Lib.hid (HW2.out.alloc HW2.out.size (.cells #[.int .i64 0, .int .i64 0, .slice none 0 0] 43))
            go_simp
            refine hK _ _ (HS.out _ HW3.out) ?_
            clear hK K hHeld
            have hHeld := HS.out _ HW3.out
            try simp only [Act.put, List.setIfInBounds_toArray, List.set_cons_zero, List.set_cons_succ]
            have Za3 := Lib.hid (((bas v2 (.cells #[.int .i64 0, .int .i64 0, .slice none 0 0] 43)).block _ (block_lt Za2.out)).trans Za2.out)
            have Zb3 := Lib.hid (show (v2.alloc (.cells #[.int .i64 0, .int .i64 0, .slice none 0 0] 43)).heap[v2.heap.size]? = some (.cells #[.int .i64 0, .int .i64 0, .slice none 0 0] 43 (0, 0)) from alloc_at rfl)
            have Nb : Hid (X.heap.size ≤ v2.heap.size) := Lib.hid HW2.out.size
            have Nd : Hid (ga ≠ v2.heap.size) := Lib.hid (Nat.ne_of_lt (block_lt Za2.out))
            generalize v2.alloc (.cells #[.int .i64 0, .int .i64 0, .slice none 0 0] 43) = v3 at *
            generalize v2.heap.size = gb at *
            have Nd2 : Hid (ga ≠ gb) := Lib.hid Nd.out
            refine held_one (i := 5) (o := ?oi5u33) (by kernel_rfl) ?hi5u33 (fun K hK => ?rest5u33)
            case hi5u33 => (simp only [List.getElem?_toArray, List.getElem?_cons_succ, List.getElem?_cons_zero]; exact rfl)
            go_simp
            go_at_call 26
            refine (qMark_any A1 B1 D2 l.length c1 tr.length d1 p2 f2 r _ (by omega) (by omega)).mono ?_
            rintro e v4 ⟨rfl, hbq⟩
            have HW4 := Lib.hid (HW3.out.trans (hbq.mono HW3.out.size))
            have Za4 := Lib.hid ((hbq.block _ (block_lt Za3.out)).trans Za3.out)
            have Zb4 := Lib.hid ((hbq.block _ (block_lt Zb3.out)).trans Zb3.out)
            clear hbq
            try go_simp
            refine hK _ _ (HS.out _ HW4.out) ?_
            clear hK K hHeld
            have hHeld := HS.out _ HW4.out
            try simp only [Act.put, List.setIfInBounds_toArray, List.set_cons_zero, List.set_cons_succ]
            refine held_one (i := 8) (o := ?oi8u34) (by kernel_rfl) ?hi8u34 (fun K hK => ?rest8u34)
            case hi8u34 => (simp only [List.getElem?_toArray, List.getElem?_cons_succ, List.getElem?_cons_zero]; exact rfl)
            obtain ⟨z0, z1, z2, zl, zf0, zf1, zf2⟩ := cells3 Za4.out
            obtain ⟨F9, hF, hm, hk⟩ := store_mr (n := l.length) (m := tr.length) (D := D2) (p := p2) (f := f2) Za4.out
            have Za5 := Lib.hid hm
            have Zb5 := Lib.hid ((hk.old gb (block_lt Zb4.out) (fun e => Nd2.out e.symm)).trans Zb4.out)
            have HW5 := Lib.hid (HW4.out.trans (hk.bel.mono Na.out))
            go_simp
            rw [← hF]
            refine hK _ _ (HS.out _ HW5.out) ?_
            clear hK K hHeld
            have hHeld := HS.out _ HW5.out
            try simp only [Act.put, List.setIfInBounds_toArray, List.set_cons_zero, List.set_cons_succ]
            clear hF hk hm z0 z1 z2 zl zf0 zf1 zf2
            generalize F9 = v5 at *
            refine held_one (i := 9) (o := ?oi9u35) (by kernel_rfl) ?hi9u35 (fun K hK => ?rest9u35)
            case hi9u35 => (simp only [List.getElem?_toArray, List.getElem?_cons_succ, List.getElem?_cons_zero]; exact rfl)
            obtain ⟨z0, z1, z2, zl, zf0, zf1, zf2⟩ := cells3 Zb5.out
            obtain ⟨F9, hF, hm, hk⟩ := store_mr (n := l.length) (m := tr.length) (D := D2) (p := p2) (f := f2) Zb5.out
            have Zb6 := Lib.hid hm
            have Za6 := Lib.hid ((hk.old ga (block_lt Za5.out) Nd2.out).trans Za5.out)
            have HW6 := Lib.hid (HW5.out.trans (hk.bel.mono Nb.out))
            go_simp
            rw [← hF]
            refine hK _ _ (HS.out _ HW6.out) ?_
            clear hK K hHeld
            have hHeld := HS.out _ HW6.out
            try simp only [Act.put, List.setIfInBounds_toArray, List.set_cons_zero, List.set_cons_succ]
            clear hF hk hm z0 z1 z2 zl zf0 zf1 zf2
            generalize F9 = v6 at *
            refine wpAnyH_done (by kernel_rfl) ?_ _
            clear hHeld
            go_wp2_with fail
            go_meet
            exact ⟨ga, gb, rfl, rfl, Za6.out, Zb6.out, HW6.out⟩
        · have HW2 := Lib.hid (HW1.out.alloc HW1.out.size (.cells #[.int .i64 0, .int .i64 0, .slice none 0 0] 43))
          go_simp
          refine hK _ _ (HS.out _ HW2.out) ?_
          clear hK K hHeld
          have hHeld := HS.out _ HW2.out
          try simp only [Act.put, List.setIfInBounds_toArray, List.set_cons_zero, List.set_cons_succ]
          have Zb2 := Lib.hid (show (v1.alloc (.cells #[.int .i64 0, .int .i64 0, .slice none 0 0] 43)).heap[v1.heap.size]? = some (.cells #[.int .i64 0, .int .i64 0, .slice none 0 0] 43 (0, 0)) from alloc_at rfl)
          have Nb : Hid (X.heap.size ≤ v1.heap.size) := Lib.hid HW1.out.size
          generalize v1.alloc (.cells #[.int .i64 0, .int .i64 0, .slice none 0 0] 43) = v2 at *
          generalize v1.heap.size = gb at *
          refine held_two (i := 5) (j := 6) (oi := ?oi5u36) (oj := ?oi6u36) (by kernel_rfl) ?hi5u36 ?hi6u36 (fun K hK => ?rest5u36) (fun K hK => ?rest6u36)
          case hi5u36 => (simp only [List.getElem?_toArray, List.getElem?_cons_succ, List.getElem?_cons_zero]; exact rfl)
          case hi6u36 => (simp only [List.getElem?_toArray, List.getElem?_cons_succ, List.getElem?_cons_zero]; exact rfl)
          · go_simp
            go_at_call 26
            refine (qMark_any A1 B1 D2 l.length c1 tr.length d1 p2 f2 r _ (by omega) (by omega)).mono ?_
            rintro e v3 ⟨rfl, hbq⟩
            have HW3 := Lib.hid (HW2.out.trans (hbq.mono HW2.out.size))
            have Zb3 := Lib.hid ((hbq.block _ (block_lt Zb2.out)).trans Zb2.out)
            clear hbq
            try go_simp
            refine hK _ _ (HS.out _ HW3.out) ?_
            clear hK K hHeld
            have hHeld := HS.out _ HW3.out
            try simp only [Act.put, List.setIfInBounds_toArray, List.set_cons_zero, List.set_cons_succ]
            refine held_one (i := 6) (o := ?oi6u37) (by kernel_rfl) ?hi6u37 (fun K hK => ?rest6u37)
            case hi6u37 => (simp only [List.getElem?_toArray, List.getElem?_cons_succ, List.getElem?_cons_zero]; exact rfl)
            have HW4 := Lib.hid (HW3.out.alloc HW3.out.size (.cells #[.int .i64 0, .int .i64 0, .slice none 0 0] 43))
            go_simp
            refine hK _ _ (HS.out _ HW4.out) ?_
            clear hK K hHeld
            have hHeld := HS.out _ HW4.out
            try simp only [Act.put, List.setIfInBounds_toArray, List.set_cons_zero, List.set_cons_succ]
            have Zb4 := Lib.hid (((bas v3 (.cells #[.int .i64 0, .int .i64 0, .slice none 0 0] 43)).block _ (block_lt Zb3.out)).trans Zb3.out)
            have Za4 := Lib.hid (show (v3.alloc (.cells #[.int .i64 0, .int .i64 0, .slice none 0 0] 43)).heap[v3.heap.size]? = some (.cells #[.int .i64 0, .int .i64 0, .slice none 0 0] 43 (0, 0)) from alloc_at rfl)
            have Na : Hid (X.heap.size ≤ v3.heap.size) := Lib.hid HW3.out.size
            have Nd : Hid (gb ≠ v3.heap.size) := Lib.hid (Nat.ne_of_lt (block_lt Zb3.out))
            generalize v3.alloc (.cells #[.int .i64 0, .int .i64 0, .slice none 0 0] 43) = v4 at *
            generalize v3.heap.size = ga at *
            have Nd2 : Hid (ga ≠ gb) := Lib.hid (fun e => Nd.out e.symm)
            refine held_one (i := 8) (o := ?oi8u38) (by kernel_rfl) ?hi8u38 (fun K hK => ?rest8u38)
            case hi8u38 => (simp only [List.getElem?_toArray, List.getElem?_cons_succ, List.getElem?_cons_zero]; exact rfl)
            obtain ⟨z0, z1, z2, zl, zf0, zf1, zf2⟩ := cells3 Za4.out
            obtain ⟨F9, hF, hm, hk⟩ := store_mr (n := l.length) (m := tr.length) (D := D2) (p := p2) (f := f2) Za4.out
            have Za5 := Lib.hid hm
            have Zb5 := Lib.hid ((hk.old gb (block_lt Zb4.out) (fun e => Nd2.out e.symm)).trans Zb4.out)
            have HW5 := Lib.hid (HW4.out.trans (hk.bel.mono Na.out))
            go_simp
            rw [← hF]
            refine hK _ _ (HS.out _ HW5.out) ?_
            clear hK K hHeld
            have hHeld := HS.out _ HW5.out
            try simp only [Act.put, List.setIfInBounds_toArray, List.set_cons_zero, List.set_cons_succ]
            clear hF hk hm z0 z1 z2 zl zf0 zf1 zf2
            generalize F9 = v5 at *
            refine held_one (i := 9) (o := ?oi9u39) (by kernel_rfl) ?hi9u39 (fun K hK => ?rest9u39)
            case hi9u39 => (simp only [List.getElem?_toArray, List.getElem?_cons_succ, List.getElem?_cons_zero]; exact rfl)
            obtain ⟨z0, z1, z2, zl, zf0, zf1, zf2⟩ := cells3 Zb5.out
            obtain ⟨F9, hF, hm, hk⟩ := store_mr (n := l.length) (m := tr.length) (D := D2) (p := p2) (f := f2) Zb5.out
            have Zb6 := Lib.hid hm
            have Za6 := Lib.hid ((hk.old ga (block_lt Za5.out) Nd2.out).trans Za5.out)
            have HW6 := Lib.hid (HW5.out.trans (hk.bel.mono Nb.out))
            go_simp
            rw [← hF]
            refine hK _ _ (HS.out _ HW6.out) ?_
            clear hK K hHeld
            have hHeld := HS.out _ HW6.out
            try simp only [Act.put, List.setIfInBounds_toArray, List.set_cons_zero, List.set_cons_succ]
            clear hF hk hm z0 z1 z2 zl zf0 zf1 zf2
            generalize F9 = v6 at *
            refine wpAnyH_done (by kernel_rfl) ?_ _
            clear hHeld
            go_wp2_with fail
            go_meet
            exact ⟨ga, gb, rfl, rfl, Za6.out, Zb6.out, HW6.out⟩
          · have HW3 := Lib.hid (HW2.out.alloc HW2.out.size (.cells #[.int .i64 0, .int .i64 0, .slice none 0 0] 43))
            go_simp
            refine hK _ _ (HS.out _ HW3.out) ?_
            clear hK K hHeld
            have hHeld := HS.out _ HW3.out
            try simp only [Act.put, List.setIfInBounds_toArray, List.set_cons_zero, List.set_cons_succ]
            have Zb3 := Lib.hid (((bas v2 (.cells #[.int .i64 0, .int .i64 0, .slice none 0 0] 43)).block _ (block_lt Zb2.out)).trans Zb2.out)
            have Za3 := Lib.hid (show (v2.alloc (.cells #[.int .i64 0, .int .i64 0, .slice none 0 0] 43)).heap[v2.heap.size]? = some (.cells #[.int .i64 0, .int .i64 0, .slice none 0 0] 43 (0, 0)) from alloc_at rfl)
            have Na : Hid (X.heap.size ≤ v2.heap.size) := Lib.hid HW2.out.size
            have Nd : Hid (gb ≠ v2.heap.size) := Lib.hid (Nat.ne_of_lt (block_lt Zb2.out))
            generalize v2.alloc (.cells #[.int .i64 0, .int .i64 0, .slice none 0 0] 43) = v3 at *
            generalize v2.heap.size = ga at *
            have Nd2 : Hid (ga ≠ gb) := Lib.hid (fun e => Nd.out e.symm)
            refine held_one (i := 5) (o := ?oi5u40) (by kernel_rfl) ?hi5u40 (fun K hK => ?rest5u40)
            case hi5u40 => (simp only [List.getElem?_toArray, List.getElem?_cons_succ, List.getElem?_cons_zero]; exact rfl)
            go_simp
            go_at_call 26
            refine (qMark_any A1 B1 D2 l.length c1 tr.length d1 p2 f2 r _ (by omega) (by omega)).mono ?_
            rintro e v4 ⟨rfl, hbq⟩
            have HW4 := Lib.hid (HW3.out.trans (hbq.mono HW3.out.size))
            have Zb4 := Lib.hid ((hbq.block _ (block_lt Zb3.out)).trans Zb3.out)
            have Za4 := Lib.hid ((hbq.block _ (block_lt Za3.out)).trans Za3.out)
            clear hbq
            try go_simp
            refine hK _ _ (HS.out _ HW4.out) ?_
            clear hK K hHeld
            have hHeld := HS.out _ HW4.out
            try simp only [Act.put, List.setIfInBounds_toArray, List.set_cons_zero, List.set_cons_succ]
            refine held_one (i := 8) (o := ?oi8u41) (by kernel_rfl) ?hi8u41 (fun K hK => ?rest8u41)
            case hi8u41 => (simp only [List.getElem?_toArray, List.getElem?_cons_succ, List.getElem?_cons_zero]; exact rfl)
            obtain ⟨z0, z1, z2, zl, zf0, zf1, zf2⟩ := cells3 Za4.out
            obtain ⟨F9, hF, hm, hk⟩ := store_mr (n := l.length) (m := tr.length) (D := D2) (p := p2) (f := f2) Za4.out
            have Za5 := Lib.hid hm
            have Zb5 := Lib.hid ((hk.old gb (block_lt Zb4.out) (fun e => Nd2.out e.symm)).trans Zb4.out)
            have HW5 := Lib.hid (HW4.out.trans (hk.bel.mono Na.out))
            go_simp
            rw [← hF]
            refine hK _ _ (HS.out _ HW5.out) ?_
            clear hK K hHeld
            have hHeld := HS.out _ HW5.out
            try simp only [Act.put, List.setIfInBounds_toArray, List.set_cons_zero, List.set_cons_succ]
            clear hF hk hm z0 z1 z2 zl zf0 zf1 zf2
            generalize F9 = v5 at *
            refine held_one (i := 9) (o := ?oi9u42) (by kernel_rfl) ?hi9u42 (fun K hK => ?rest9u42)
            case hi9u42 => (simp only [List.getElem?_toArray, List.getElem?_cons_succ, List.getElem?_cons_zero]; exact rfl)
            obtain ⟨z0, z1, z2, zl, zf0, zf1, zf2⟩ := cells3 Zb5.out
            obtain ⟨F9, hF, hm, hk⟩ := store_mr (n := l.length) (m := tr.length) (D := D2) (p := p2) (f := f2) Zb5.out
            have Zb6 := Lib.hid hm
            have Za6 := Lib.hid ((hk.old ga (block_lt Za5.out) Nd2.out).trans Za5.out)
            have HW6 := Lib.hid (HW5.out.trans (hk.bel.mono Nb.out))
            go_simp
            rw [← hF]
            refine hK _ _ (HS.out _ HW6.out) ?_
            clear hK K hHeld
            have hHeld := HS.out _ HW6.out
            try simp only [Act.put, List.setIfInBounds_toArray, List.set_cons_zero, List.set_cons_succ]
            clear hF hk hm z0 z1 z2 zl zf0 zf1 zf2
            generalize F9 = v6 at *
            refine wpAnyH_done (by kernel_rfl) ?_ _
            clear hHeld
            go_wp2_with fail
            go_meet
            exact ⟨ga, gb, rfl, rfl, Za6.out, Zb6.out, HW6.out⟩
      · have HW1 := Lib.hid (HV.out.alloc HV.out.size (.cells #[.int .i64 0, .int .i64 0, .slice none 0 0] 43))
        go_simp
        refine hK _ _ (HS.out _ HW1.out) ?_
        clear hK K hHeld
        have hHeld := HS.out _ HW1.out
        try simp only [Act.put, List.setIfInBounds_toArray, List.set_cons_zero, List.set_cons_succ]
        have Za1 := Lib.hid (show (V.alloc (.cells #[.int .i64 0, .int .i64 0, .slice none 0 0] 43)).heap[V.heap.size]? = some (.cells #[.int .i64 0, .int .i64 0, .slice none 0 0] 43 (0, 0)) from alloc_at rfl)
        have Na : Hid (X.heap.size ≤ V.heap.size) := Lib.hid HV.out.size
        generalize V.alloc (.cells #[.int .i64 0, .int .i64 0, .slice none 0 0] 43) = v1 at *
        generalize V.heap.size = ga at *
        refine held_two (i := 2) (j := 7) (oi := ?oi2u43) (oj := ?oi7u43) (by kernel_rfl) ?hi2u43 ?hi7u43 (fun K hK => ?rest2u43) (fun K hK => ?rest7u43)
        case hi2u43 => (simp only [List.getElem?_toArray, List.getElem?_cons_succ, List.getElem?_cons_zero]; exact rfl)
        case hi7u43 => (simp only [List.getElem?_toArray, List.getElem?_cons_succ, List.getElem?_cons_zero]; exact rfl)
        · go_simp
          go_at_call 25
          refine (hMark_any A1 B1 D2 l.length c1 tr.length d1 p2 f2 r _ (by omega) (by omega)).mono ?_
          rintro e v2 ⟨rfl, hbq⟩
          have HW2 := Lib.hid (HW1.out.trans (hbq.mono HW1.out.size))
          have Za2 := Lib.hid ((hbq.block _ (block_lt Za1.out)).trans Za1.out)
          clear hbq
          try go_simp
          refine hK _ _ (HS.out _ HW2.out) ?_
          clear hK K hHeld
          have hHeld := HS.out _ HW2.out
          try simp only [Act.put, List.setIfInBounds_toArray, List.set_cons_zero, List.set_cons_succ]
          refine held_two (i := 5) (j := 7) (oi := ?oi5u44) (oj := ?oi7u44) (by kernel_rfl) ?hi5u44 ?hi7u44 (fun K hK => ?rest5u44) (fun K hK => ?rest7u44)
          case hi5u44 => (simp only [List.getElem?_toArray, List.getElem?_cons_succ, List.getElem?_cons_zero]; exact rfl)
          case hi7u44 => (simp only [List.getElem?_toArray, List.getElem?_cons_succ, List.getElem?_cons_zero]; exact rfl)
          · go_simp
            go_at_call 26
            refine (qMark_any A1 B1 D2 l.length c1 tr.length d1 p2 f2 r _ (by omega) (by omega)).mono ?_
            rintro e v3 ⟨rfl, hbq⟩
            have HW3 := Lib.hid (HW2.out.trans (hbq.mono HW2.out.size))
            have Za3 := Lib.hid ((hbq.block _ (block_lt Za2.out)).trans Za2.out)
            clear hbq
            try go_simp
            refine hK _ _ (HS.out _ HW3.out) ?_
            clear hK K hHeld
            have hHeld := HS.out _ HW3.out
            try simp only [Act.put, List.setIfInBounds_toArray, List.set_cons_zero, List.set_cons_succ]
            refine held_one (i := 7) (o := ?oi7u45) (by kernel_rfl) ?hi7u45 (fun K hK => ?rest7u45)
            case hi7u45 => (simp only [List.getElem?_toArray, List.getElem?_cons_succ, List.getElem?_cons_zero]; exact rfl)
            have HW4 := Lib.hid (HW3.out.alloc HW3.out.size (.cells #[.int .i64 0, .int .i64 0, .slice none 0 0] 43))
            go_simp
            refine hK _ _ (HS.out _ HW4.out) ?_
            clear hK K hHeld
            have hHeld := HS.out _ HW4.out
            try simp only [Act.put, List.setIfInBounds_toArray, List.set_cons_zero, List.set_cons_succ]
            have Za4 := Lib.hid (((bas v3 (.cells #[.int .i64 0, .int .i64 0, .slice none 0 0] 43)).block _ (block_lt Za3.out)).trans Za3.out)
            have Zb4 := Lib.hid (show (v3.alloc (.cells #[.int .i64 0, .int .i64 0, .slice none 0 0] 43)).heap[v3.heap.size]? = some (.cells #[.int .i64 0, .int .i64 0, .slice none 0 0] 43 (0, 0)) from alloc_at rfl)
            have Nb : Hid (X.heap.size ≤ v3.heap.size) := Lib.hid HW3.out.size
            have Nd : Hid (ga ≠ v3.heap.size) := Lib.hid (Nat.ne_of_lt (block_lt Za3.out))
            generalize v3.alloc (.cells #[.int .i64 0, .int .i64 0, .slice none 0 0] 43) = v4 at *
            generalize v3.heap.size = gb at *
            have Nd2 : Hid (ga ≠ gb) := Lib.hid Nd.out
            refine held_one (i := 8) (o := ?oi8u46) (by kernel_rfl) ?hi8u46 (fun K hK => ?rest8u46)
            case hi8u46 => (simp only [List.getElem?_toArray, List.getElem?_cons_succ, List.getElem?_cons_zero]; exact rfl)
            obtain ⟨z0, z1, z2, zl, zf0, zf1, zf2⟩ := cells3 Za4.out
            obtain ⟨F9, hF, hm, hk⟩ := store_mr (n := l.length) (m := tr.length) (D := D2) (p := p2) (f := f2) Za4.out
            have Za5 := Lib.hid hm
            have Zb5 := Lib.hid ((hk.old gb (block_lt Zb4.out) (fun e => Nd2.out e.symm)).trans Zb4.out)
            have HW5 := Lib.hid (HW4.out.trans (hk.bel.mono Na.out))
            go_simp
            rw [← hF]
            refine hK _ _ (HS.out _ HW5.out) ?_
            clear hK K hHeld
            have hHeld := HS.out _ HW5.out
            try simp only [Act.put, List.setIfInBounds_toArray, List.set_cons_zero, List.set_cons_succ]
            clear hF hk hm z0 z1 z2 zl zf0 zf1 zf2
            generalize F9 = v5 at *
            refine held_one (i := 9) (o := ?oi9u47) (by kernel_rfl) ?hi9u47 (fun K hK => ?rest9u47)
            case hi9u47 => (simp only [List.getElem?_toArray, List.getElem?_cons_succ, List.getElem?_cons_zero]; exact rfl)
            obtain ⟨z0, z1, z2, zl, zf0, zf1, zf2⟩ := cells3 Zb5.out
            obtain ⟨F9, hF, hm, hk⟩ := store_mr (n := l.length) (m := tr.length) (D := D2) (p := p2) (f := f2) Zb5.out
            have Zb6 := Lib.hid hm
            have Za6 := Lib.hid ((hk.old ga (block_lt Za5.out) Nd2.out).trans Za5.out)
            have HW6 := Lib.hid (HW5.out.trans (hk.bel.mono Nb.out))
            go_simp
            rw [← hF]
            refine hK _ _ (HS.out _ HW6.out) ?_
            clear hK K hHeld
            have hHeld := HS.out _ HW6.out
            try simp only [Act.put, List.setIfInBounds_toArray, List.set_cons_zero, List.set_cons_succ]
            clear hF hk hm z0 z1 z2 zl zf0 zf1 zf2
            generalize F9 = v6 at *
            refine wpAnyH_done (by kernel_rfl) ?_ _
            clear hHeld
            go_wp2_with fail
            go_meet
            exact ⟨ga, gb, rfl, rfl, Za6.out, Zb6.out, HW6.out⟩
          · have HW3 := Lib.hid (HW2.out.alloc HW2.out.size (.cells #[.int .i64 0, .int .i64 0, .slice none 0 0] 43))
            go_simp
            refine hK _ _ (HS.out _ HW3.out) ?_
            clear hK K hHeld
            have hHeld := HS.out _ HW3.out
            try simp only [Act.put, List.setIfInBounds_toArray, List.set_cons_zero, List.set_cons_succ]
            have Za3 := Lib.hid (((bas v2 (.cells #[.int .i64 0, .int .i64 0, .slice none 0 0] 43)).block _ (block_lt Za2.out)).trans Za2.out)
            have Zb3 := Lib.hid (show (v2.alloc (.cells #[.int .i64 0, .int .i64 0, .slice none 0 0] 43)).heap[v2.heap.size]? = some (.cells #[.int .i64 0, .int .i64 0, .slice none 0 0] 43 (0, 0)) from alloc_at rfl)
            have Nb : Hid (X.heap.size ≤ v2.heap.size) := Lib.hid HW2.out.size
            have Nd : Hid (ga ≠ v2.heap.size) := Lib.hid (Nat.ne_of_lt (block_lt Za2.out))
            generalize v2.alloc (.cells #[.int .i64 0, .int .i64 0, .slice none 0 0] 43) = v3 at *
            generalize v2.heap.size = gb at *
            have Nd2 : Hid (ga ≠ gb) := Lib.hid Nd.out
            refine held_one (i := 5) (o := ?oi5u48) (by kernel_rfl) ?hi5u48 (fun K hK => ?rest5u48)
            case hi5u48 => (simp only [List.getElem?_toArray, List.getElem?_cons_succ, List.getElem?_cons_zero]; exact rfl)
            go_simp
            go_at_call 26
            refine (qMark_any A1 B1 D2 l.length c1 tr.length d1 p2 f2 r _ (by omega) (by omega)).mono ?_
            rintro e v4 ⟨rfl, hbq⟩
            have HW4 := Lib.hid (HW3.out.trans (hbq.mono HW3.out.size))
            have Za4 := Lib.hid ((hbq.block _ (block_lt Za3.out)).trans Za3.out)
            have Zb4 := Lib.hid ((hbq.block _ (block_lt Zb3.out)).trans Zb3.out)
            clear hbq
            try go_simp
            refine hK _ _ (HS.out _ HW4.out) ?_
            clear hK K hHeld
            have hHeld := HS.out _ HW4.out
            try simp only [Act.put, List.setIfInBounds_toArray, List.set_cons_zero, List.set_cons_succ]
            refine held_one (i := 8) (o := ?oi8u49) (by kernel_rfl) ?hi8u49 (fun K hK => ?rest8u49)
            case hi8u49 => (simp only [List.getElem?_toArray, List.getElem?_cons_succ, List.getElem?_cons_zero]; exact rfl)
            obtain ⟨z0, z1, z2, zl, zf0, zf1, zf2⟩ := cells3 Za4.out
            obtain ⟨F9, hF, hm, hk⟩ := store_mr (n := l.length) (m := tr.length) (D := D2) (p := p2) (f := f2) Za4.out
            have Za5 := Lib.hid hm
            have Zb5 := Lib.hid ((hk.old gb (block_lt Zb4.out) (fun e => Nd2.out e.symm)).trans Zb4.out)
            have HW5 := Lib.hid (HW4.out.trans (hk.bel.mono Na.out))
            go_simp
            rw [← hF]
            refine hK _ _ (HS.out _ HW5.out) ?_
            clear hK K hHeld
            have hHeld := HS.out _ HW5.out
            try simp only [Act.put, List.setIfInBounds_toArray, List.set_cons_zero, List.set_cons_succ]
            clear hF hk hm z0 z1 z2 zl zf0 zf1 zf2
            generalize F9 = v5 at *
            refine held_one (i := 9) (o := ?oi9u50) (by kernel_rfl) ?hi9u50 (fun K hK => ?rest9u50)
            case hi9u50 => (simp only [List.getElem?_toArray, List.getElem?_cons_succ, List.getElem?_cons_zero]; exact rfl)
            obtain ⟨z0, z1, z2, zl, zf0, zf1, zf2⟩ := cells3 Zb5.out
            obtain ⟨F9, hF, hm, hk⟩ := store_mr (n := l.length) (m := tr.length) (D := D2) (p := p2) (f := f2) Zb5.out
            have Zb6 := Lib.hid hm
            have Za6 := Lib.hid ((hk.old ga (block_lt Za5.out) Nd2.out).trans Za5.out)
            have HW6 := Lib.hid (HW5.out.trans (hk.bel.mono Nb.out))
            go_simp
            rw [← hF]
            refine hK _ _ (HS.out _ HW6.out) ?_
            clear hK K hHeld
            have hHeld := HS.out _ HW6.out
            try simp only [Act.put, List.setIfInBounds_toArray, List.set_cons_zero, List.set_cons_succ]
            clear hF hk hm z0 z1 z2 zl zf0 zf1 zf2
            generalize F9 = v6 at *
            refine wpAnyH_done (by kernel_rfl) ?_ _
            clear hHeld
            go_wp2_with fail
            go_meet
            exact ⟨ga, gb, rfl, rfl, Za6.out, Zb6.out, HW6.out⟩
        · have HW2 := Lib.hid (HW1.out.alloc HW1.out.size (.cells #[.int .i64 0, .int .i64 0, .slice none 0 0] 43))
          go_simp
          refine hK _ _ (HS.out _ HW2.out) ?_
          clear hK K hHeld
          have hHeld := HS.out _ HW2.out
          try simp only [Act.put, List.setIfInBounds_toArray, List.set_cons_zero, List.set_cons_succ]
          have Za2 := Lib.hid (((bas v1 (.cells #[.int .i64 0, .int .i64 0, .slice none 0 0] 43)).block _ (block_lt Za1.out)).trans Za1.out)
          have Zb2 := Lib.hid (show (v1.alloc (.cells #[.int .i64 0, .int .i64 0, .slice none 0 0] 43)).heap[v1.heap.size]? = some (.cells #[.int .i64 0, .int .i64 0, .slice none 0 0] 43 (0, 0)) from alloc_at rfl)
          have Nb : Hid (X.heap.size ≤ v1.heap.size) := Lib.hid HW1.out.size
          have Nd : Hid (ga ≠ v1.heap.size) := Lib.hid (Nat.ne_of_lt (block_lt Za1.out))
          generalize v1.alloc (.cells #[.int .i64 0, .int .i64 0, .slice none 0 0] 43) = v2 at *
          generalize v1.heap.size = gb at *
          have Nd2 : Hid (ga ≠ gb) := Lib.hid Nd.out
          refine held_one (i := 2) (o := ?oi2u51) (by kernel_rfl) ?hi2u51 (fun K hK => ?rest2u51)
          case hi2u51 => (simp only [List.getElem?_toArray, List.getElem?_cons_succ, List.getElem?_cons_zero]; exact rfl)
          go_simp
          go_at_call 25
          refine (hMark_any A1 B1 D2 l.length c1 tr.length d1 p2 f2 r _ (by omega) (by omega)).mono ?_
          rintro e v3 ⟨rfl, hbq⟩
          have HW3 := Lib.hid (HW2.out.trans (hbq.mono HW2.out.size))
          have Za3 := Lib.hid ((hbq.block _ (block_lt Za2.out)).trans Za2.out)
          have Zb3 := Lib.hid ((hbq.block _ (block_lt Zb2.out)).trans Zb2.out)
          clear hbq
          try go_simp
          refine hK _ _ (HS.out _ HW3.out) ?_
          clear hK K hHeld
          have hHeld := HS.out _ HW3.out
          try simp only [Act.put, List.setIfInBounds_toArray, List.set_cons_zero, List.set_cons_succ]
          refine held_one (i := 5) (o := ?oi5u52) (by kernel_rfl) ?hi5u52 (fun K hK => ?rest5u52)
          case hi5u52 => (simp only [List.getElem?_toArray, List.getElem?_cons_succ, List.getElem?_cons_zero]; exact rfl)
          go_simp
          go_at_call 26
          refine (qMark_any A1 B1 D2 l.length c1 tr.length d1 p2 f2 r _ (by omega) (by omega)).mono ?_
          rintro e v4 ⟨rfl, hbq⟩
          have HW4 := Lib.hid (HW3.out.trans (hbq.mono HW3.out.size))
          have Za4 := Lib.hid ((hbq.block _ (block_lt Za3.out)).trans Za3.out)
          have Zb4 := Lib.hid ((hbq.block _ (block_lt Zb3.out)).trans Zb3.out)
          clear hbq
          try go_simp
          refine hK _ _ (HS.out _ HW4.out) ?_
          clear hK K hHeld
          have hHeld := HS.out _ HW4.out
          try simp only [Act.put, List.setIfInBounds_toArray, List.set_cons_zero, List.set_cons_succ]
          refine held_one (i := 8) (o := ?oi8u53) (by kernel_rfl) ?hi8u53 (fun K hK => ?rest8u53)
          case hi8u53 => (simp only [List.getElem?_toArray, List.getElem?_cons_succ, List.getElem?_cons_zero]; exact rfl)
          obtain ⟨z0, z1, z2, zl, zf0, zf1, zf2⟩ := cells3 Za4.out
          obtain ⟨F9, hF, hm, hk⟩ := store_mr (n := l.length) (m := tr.length) (D := D2) (p := p2) (f := f2) Za4.out
          have Za5 := Lib.hid hm
          have Zb5 := Lib.hid ((hk.old gb (block_lt Zb4.out) (fun e => Nd2.out e.symm)).trans Zb4.out)
          have HW5 := Lib.hid (HW4.out.trans (hk.bel.mono Na.out))
          go_simp
          rw [← hF]
          refine hK _ _ (HS.out _ HW5.out) ?_
          clear hK K hHeld
          have hHeld := HS.out _ HW5.out
          try simp only [Act.put, List.setIfInBounds_toArray, List.set_cons_zero, List.set_cons_succ]
          clear hF hk hm z0 z1 z2 zl zf0 zf1 zf2
          generalize F9 = v5 at *
          refine held_one (i := 9) (o := ?oi9u54) (by kernel_rfl) ?hi9u54 (fun K hK => ?rest9u54)
          case hi9u54 => (simp only [List.getElem?_toArray, List.getElem?_cons_succ, List.getElem?_cons_zero]; exact rfl)
          obtain ⟨z0, z1, z2, zl, zf0, zf1, zf2⟩ := cells3 Zb5.out
          obtain ⟨F9, hF, hm, hk⟩ := store_mr (n := l.length) (m := tr.length) (D := D2) (p := p2) (f := f2) Zb5.out
          have Zb6 := Lib.hid hm
          have Za6 := Lib.hid ((hk.old ga (block_lt Za5.out) Nd2.out).trans Za5.out)
          have HW6 := Lib.hid (HW5.out.trans (hk.bel.mono Nb.out))
          go_simp
          rw [← hF]
          refine hK _ _ (HS.out _ HW6.out) ?_
          clear hK K hHeld
          have hHeld := HS.out _ HW6.out
          try simp only [Act.put, List.setIfInBounds_toArray, List.set_cons_zero, List.set_cons_succ]
          clear hF hk hm z0 z1 z2 zl zf0 zf1 zf2
          generalize F9 = v6 at *
          refine wpAnyH_done (by kernel_rfl) ?_ _
          clear hHeld
          go_wp2_with fail
          go_meet
          exact ⟨ga, gb, rfl, rfl, Za6.out, Zb6.out, HW6.out⟩
      · have HW1 := Lib.hid (HV.out.alloc HV.out.size (.cells #[.int .i64 0, .int .i64 0, .slice none 0 0] 43))
        go_simp
        refine hK _ _ (HS.out _ HW1.out) ?_
        clear hK K hHeld
        have hHeld := HS.out _ HW1.out
        try simp only [Act.put, List.setIfInBounds_toArray, List.set_cons_zero, List.set_cons_succ]
        have Zb1 := Lib.hid (show (V.alloc (.cells #[.int .i64 0, .int .i64 0, .slice none 0 0] 43)).heap[V.heap.size]? = some (.cells #[.int .i64 0, .int .i64 0, .slice none 0 0] 43 (0, 0)) from alloc_at rfl)
        have Nb : Hid (X.heap.size ≤ V.heap.size) := Lib.hid HV.out.size
        generalize V.alloc (.cells #[.int .i64 0, .int .i64 0, .slice none 0 0] 43) = v1 at *
        generalize V.heap.size = gb at *
        refine held_two (i := 2) (j := 6) (oi := ?oi2u55) (oj := ?oi6u55) (by kernel_rfl) ?hi2u55 ?hi6u55 (fun K hK => ?rest2u55) (fun K hK => ?rest6u55)
        case hi2u55 => (simp only [List.getElem?_toArray, List.getElem?_cons_succ, List.getElem?_cons_zero]; exact rfl)
        case hi6u55 => (simp only [List.getElem?_toArray, List.getElem?_cons_succ, List.getElem?_cons_zero]; exact rfl)
        · go_simp
          go_at_call 25
          refine (hMark_any A1 B1 D2 l.length c1 tr.length d1 p2 f2 r _ (by omega) (by omega)).mono ?_
          rintro e v2 ⟨rfl, hbq⟩
          have HW2 := Lib.hid (HW1.out.trans (hbq.mono HW1.out.size))
          have Zb2 := Lib.hid ((hbq.block _ (block_lt Zb1.out)).trans Zb1.out)
          clear hbq
          try go_simp
          refine hK _ _ (HS.out _ HW2.out) ?_
          clear hK K hHeld
          have hHeld := HS.out _ HW2.out
          try simp only [Act.put, List.setIfInBounds_toArray, List.set_cons_zero, List.set_cons_succ]
          refine held_two (i := 5) (j := 6) (oi := ?oi5u56) (oj := ?oi6u56) (by kernel_rfl) ?hi5u56 ?hi6u56 (fun K hK => ?rest5u56) (fun K hK => ?rest6u56)
          case hi5u56 => (simp only [List.getElem?_toArray, List.getElem?_cons_succ, List.getElem?_cons_zero]; exact rfl)
          case hi6u56 => (simp only [List.getElem?_toArray, List.getElem?_cons_succ, List.getElem?_cons_zero]; exact rfl)
          · go_simp
            go_at_call 26
            refine (qMark_any A1 B1 D2 l.length c1 tr.length d1 p2 f2 r _ (by omega) (by omega)).mono ?_
            rintro e v3 ⟨rfl, hbq⟩
            have HW3 := Lib.hid (HW2.out.trans (hbq.mono HW2.out.size))
            have Zb3 := Lib.hid ((hbq.block _ (block_lt Zb2.out)).trans Zb2.out)
            clear hbq
            try go_simp
            refine hK _ _ (HS.out _ HW3.out) ?_
            clear hK K hHeld
            have hHeld := HS.out _ HW3.out
            try simp only [Act.put, List.setIfInBounds_toArray, List.set_cons_zero, List.set_cons_succ]
            refine held_one (i := 6) (o := ?oi6u57) (by kernel_rfl) ?hi6u57 (fun K hK => ?rest6u57)
            case hi6u57 => (simp only [List.getElem?_toArray, List.getElem?_cons_succ, List.getElem?_cons_zero]; exact rfl)
            have HW4 := Lib.hid (HW3.out.alloc HW3.out.size (.cells #[.int .i64 0, .int .i64 0, .slice none 0 0] 43))
            go_simp
            refine hK _ _ (HS.out _ HW4.out) ?_
            clear hK K hHeld
            have hHeld := HS.out _ HW4.out
            try simp only [Act.put, List.setIfInBounds_toArray, List.set_cons_zero, List.set_cons_succ]
            have Zb4 := Lib.hid (((bas v3 (.cells #[.int .i64 0, .int .i64 0, .slice none 0 0] 43)).block _ (block_lt Zb3.out)).trans Zb3.out)
            have Za4 := Lib.hid (show (v3.alloc (.cells #[.int .i64 0, .int .i64 0, .slice none 0 0] 43)).heap[v3.heap.size]? = some (.cells #[.int .i64 0, .int .i64 0, .slice none 0 0] 43 (0, 0)) from alloc_at rfl)
            have Na : Hid (X.heap.size ≤ v3.heap.size) := Lib.hid HW3.out.size
            have Nd : Hid (gb ≠ v3.heap.size) := Lib.hid (Nat.ne_of_lt (block_lt Zb3.out))
            generalize v3.alloc (.cells #[.int .i64 0, .int .i64 0, .slice none 0 0] 43) = v4 at *
            generalize v3.heap.size = ga at *
            have Nd2 : Hid (ga ≠ gb) := Lib.hid (fun e => Nd.out e.symm)
            refine held_one (i := 8) (o := ?oi8u58) (by kernel_rfl) ?hi8u58 (fun K hK => ?rest8u58)
            case hi8u58 => (simp only [List.getElem?_toArray, List.getElem?_cons_succ, List.getElem?_cons_zero]; exact rfl)
            obtain ⟨z0, z1, z2, zl, zf0, zf1, zf2⟩ := cells3 Za4.out
            obtain ⟨F9, hF, hm, hk⟩ := store_mr (n := l.length) (m := tr.length) (D := D2) (p := p2) (f := f2) Za4.out
            have Za5 := Lib.hid hm
            have Zb5 := Lib.hid ((hk.old gb (block_lt Zb4.out) (fun e => Nd2.out e.symm)).trans Zb4.out)
            have HW5 := Lib.hid (HW4.out.trans (hk.bel.mono Na.out))
            go_simp
            rw [← hF]
            refine hK _ _ (HS.out _ HW5.out) ?_
            clear hK K hHeld
            have hHeld := HS.out _ HW5.out
            try simp only [Act.put, List.setIfInBounds_toArray, List.set_cons_zero, List.set_cons_succ]
            clear hF hk hm z0 z1 z2 zl zf0 zf1 zf2
            generalize F9 = v5 at *
            refine held_one (i := 9) (o := ?oi9u59) (by kernel_rfl) ?hi9u59 (fun K hK => ?rest9u59)
            case hi9u59 => (simp only [List.getElem?_toArray, List.getElem?_cons_succ, List.getElem?_cons_zero]; exact rfl)
            obtain ⟨z0, z1, z2, zl, zf0, zf1, zf2⟩ := cells3 Zb5.out
            obtain ⟨F9, hF, hm, hk⟩ := store_mr (n := l.length) (m := tr.length) (D := D2) (p := p2) (f := f2) Zb5.out
            have Zb6 := Lib.hid hm
            have Za6 := Lib.hid ((hk.old ga (block_lt Za5.out) Nd2.out).trans Za5.out)
            have HW6 := Lib.hid (HW5.out.trans (hk.bel.mono Nb.out))
            go_simp
            rw [← hF]
            refine hK _ _ (HS.out _ HW6.out) ?_
            clear hK K hHeld
            have hHeld := HS.out _ HW6.out
            try simp only [Act.put, List.setIfInBounds_toArray, List.set_cons_zero, List.set_cons_succ]
            clear hF hk hm z0 z1 z2 zl zf0 zf1 zf2
            generalize F9 = v6 at *
            refine wpAnyH_done (by kernel_rfl) ?_ _
            clear hHeld
            go_wp2_with fail
            go_meet
            exact ⟨ga, gb, rfl, rfl, Za6.out, Zb6.out, HW6.out⟩
          · have HW3 := Lib.hid (HW2.out.alloc HW2.out.size (.cells #[.int .i64 0, .int .i64 0, .slice none 0 0] 43))
            go_simp
            refine hK _ _ (HS.out _ HW3.out) ?_
            clear hK K hHeld
            have hHeld := HS.out _ HW3.out
            try simp only [Act.put, List.setIfInBounds_toArray, List.set_cons_zero, List.set_cons_succ]
            have Zb3 := Lib.hid (((bas v2 (.cells #[.int .i64 0, .int .i64 0, .slice none 0 0] 43)).block _ (block_lt Zb2.out)).trans Zb2.out)
            have Za3 := Lib.hid (show (v2.alloc (.cells #[.int .i64 0, .int .i64 0, .slice none 0 0] 43)).heap[v2.heap.size]? = some (.cells #[.int .i64 0, .int .i64 0, .slice none 0 0] 43 (0, 0)) from alloc_at rfl)
            have Na : Hid (X.heap.size ≤ v2.heap.size) := Lib.hid HW2.out.size
            have Nd : Hid (gb ≠ v2.heap.size) := Lib.hid (Nat.ne_of_lt (block_lt Zb2.out))
            generalize v2.alloc (.cells #[.int .i64 0, .int .i64 0, .slice none 0 0] 43) = v3 at *
            generalize v2.heap.size = ga at *
            have Nd2 : Hid (ga ≠ gb) := Lib.hid (fun e => Nd.out e.symm)
            refine held_one (i := 5) (o := ?oi5u60) (by kernel_rfl) ?hi5u60 (fun K hK => ?rest5u60)
            case hi5u60 => (simp only [List.getElem?_toArray, List.getElem?_cons_succ, List.getElem?_cons_zero]; exact rfl)
            go_simp
            go_at_call 26
            refine (qMark_any A1 B1 D2 l.length c1 tr.length d1 p2 f2 r _ (by omega) (by omega)).mono ?_
            rintro e v4 ⟨rfl, hbq⟩
            have HW4 := Lib.hid (HW3.out.trans (hbq.mono HW3.out.size))
            have Zb4 := Lib.hid ((hbq.block _ (block_lt Zb3.out)).trans Zb3.out)
            have Za4 := Lib.hid ((hbq.block _ (block_lt Za3.out)).trans Za3.out)
            clear hbq
            try go_simp
            refine hK _ _ (HS.out _ HW4.out) ?_
            clear hK K hHeld
            have hHeld := HS.out _ HW4.out
            try simp only [Act.put, List.setIfInBounds_toArray, List.set_cons_zero, List.set_cons_succ]
            refine held_one (i := 8) (o := ?oi8u61) (by kernel_rfl) ?hi8u61 (fun K hK => ?rest8u61)
            case hi8u61 => (simp only [List.getElem?_toArray, List.getElem?_cons_succ, List.getElem?_cons_zero]; exact rfl)
            obtain ⟨z0, z1, z2, zl, zf0, zf1, zf2⟩ := cells3 Za4.out
            obtain ⟨F9, hF, hm, hk⟩ := store_mr (n := l.length) (m := tr.length) (D := D2) (p := p2) (f := f2) Za4.out
            have Za5 := Lib.hid hm
            have Zb5 := Lib.hid ((hk.old gb (block_lt Zb4.out) (fun e => Nd2.out e.symm)).trans Zb4.out)
            have HW5 := Lib.hid (HW4.out.trans (hk.bel.mono Na.out))
            go_simp
            rw [← hF]
            refine hK _ _ (HS.out _ HW5.out) ?_
            clear hK K hHeld
            have hHeld := HS.out _ HW5.out
            try simp only [Act.put, List.setIfInBounds_toArray, List.set_cons_zero, List.set_cons_succ]
            clear hF hk hm z0 z1 z2 zl zf0 zf1 zf2
            generalize F9 = v5 at *
            refine held_one (i := 9) (o := ?oi9u62) (by kernel_rfl) ?hi9u62 (fun K hK => ?rest9u62)
            case hi9u62 => (simp only [List.getElem?_toArray, List.getElem?_cons_succ, List.getElem?_cons_zero]; exact rfl)
            obtain ⟨z0, z1, z2, zl, zf0, zf1, zf2⟩ := cells3 Zb5.out
            obtain ⟨F9, hF, hm, hk⟩ := store_mr (n := l.length) (m := tr.length) (D := D2) (p := p2) (f := f2) Zb5.out
            have Zb6 := Lib.hid hm
            have Za6 := Lib.hid ((hk.old ga (block_lt Za5.out) Nd2.out).trans Za5.out)
            have HW6 := Lib.hid (HW5.out.trans (hk.bel.mono Nb.out))
            go_simp
            rw [← hF]
            refine hK _ _ (HS.out _ HW6.out) ?_
            clear hK K hHeld
            have hHeld := HS.out _ HW6.out
            try simp only [Act.put, List.setIfInBounds_toArray, List.set_cons_zero, List.set_cons_succ]
            clear hF hk hm z0 z1 z2 zl zf0 zf1 zf2
            generalize F9 = v6 at *
            refine wpAnyH_done (by kernel_rfl) ?_ _
            clear hHeld
            go_wp2_with fail
            go_meet
            exact ⟨ga, gb, rfl, rfl, Za6.out, Zb6.out, HW6.out⟩
        · have HW2 := Lib.hid (HW1.out.alloc HW1.out.size (.cells #[.int .i64 0, .int .i64 0, .slice none 0 0] 43))
          go_simp
          refine hK _ _ (HS.out _ HW2.out) ?_
          clear hK K hHeld
          have hHeld := HS.out _ HW2.out
          try simp only [Act.put, List.setIfInBounds_toArray, List.set_cons_zero, List.set_cons_succ]
          have Zb2 := Lib.hid (((bas v1 (.cells #[.int .i64 0, .int .i64 0, .slice none 0 0] 43)).block _ (block_lt Zb1.out)).trans Zb1.out)
          have Za2 := Lib.hid (show (v1.alloc (.cells #[.int .i64 0, .int .i64 0, .slice none 0 0] 43)).heap[v1.heap.size]? = some (.cells #[.int .i64 0, .int .i64 0, .slice none 0 0] 43 (0, 0)) from alloc_at rfl)
          have Na : Hid (X.heap.size ≤ v1.heap.size) := Lib.hid HW1.out.size
          have Nd : Hid (gb ≠ v1.heap.size) := Lib.hid (Nat.ne_of_lt (block_lt Zb1.out))
          generalize v1.alloc (.cells #[.int .i64 0, .int .i64 0, .slice none 0 0] 43) = v2 at *
          generalize v1.heap.size = ga at *
          have Nd2 : Hid (ga ≠ gb) := Lib.hid (fun e => Nd.out e.symm)
          refine held_one (i := 2) (o := ?oi2u63) (by kernel_rfl) ?hi2u63 (fun K hK => ?rest2u63)
          case hi2u63 => (simp only [List.getElem?_toArray, List.getElem?_cons_succ, List.getElem?_cons_zero]; exact rfl)
          go_simp
          go_at_call 25
          refine (hMark_any A1 B1 D2 l.length c1 tr.length d1 p2 f2 r _ (by omega) (by omega)).mono ?_
          rintro e v3 ⟨rfl, hbq⟩
          have HW3 := Lib.hid (HW2.out.trans (hbq.mono HW2.out.size))
          have Zb3 := Lib.hid ((hbq.block _ (block_lt Zb2.out)).trans Zb2.out)
          have Za3 := Lib.hid ((hbq.block _ (block_lt Za2.out)).trans Za2.out)
          clear hbq
          try go_simp
          refine hK _ _ (HS.out _ HW3.out) ?_
          clear hK K hHeld
          have hHeld := HS.out _ HW3.out
          try simp only [Act.put, List.setIfInBounds_toArray, List.set_cons_zero, List.set_cons_succ]
          refine held_one (i := 5) (o := ?oi5u64) (by kernel_rfl) ?hi5u64 (fun K hK => ?rest5u64)
          case hi5u64 => (simp only [List.getElem?_toArray, List.getElem?_cons_succ, List.getElem?_cons_zero]; exact rfl)
          go_simp
          go_at_call 26
          refine (qMark_any A1 B1 D2 l.length c1 tr.length d1 p2 f2 r _ (by omega) (by omega)).mono ?_
          rintro e v4 ⟨rfl, hbq⟩
          have HW4 := Lib.hid (HW3.out.trans (hbq.mono HW3.out.size))
          have Zb4 := Lib.hid ((hbq.block _ (block_lt Zb3.out)).trans Zb3.out)
          have Za4 := Lib.hid ((hbq.block _ (block_lt Za3.out)).trans Za3.out)
          clear hbq
          try go_simp
          refine hK _ _ (HS.out _ HW4.out) ?_
          clear hK K hHeld
          have hHeld := HS.out _ HW4.out
          try simp only [Act.put, List.setIfInBounds_toArray, List.set_cons_zero, List.set_cons_succ]
          refine held_one (i := 8) (o := ?oi8u65) (by kernel_rfl) ?hi8u65 (fun K hK => ?rest8u65)
          case hi8u65 => (simp only [List.getElem?_toArray, List.getElem?_cons_succ, List.getElem?_cons_zero]; exact rfl)
          obtain ⟨z0, z1, z2, zl, zf0, zf1, zf2⟩ := cells3 Za4.out
          obtain ⟨F9, hF, hm, hk⟩ := store_mr (n := l.length) (m := tr.length) (D := D2) (p := p2) (f := f2) Za4.out
          have Za5 := Lib.hid hm
          have Zb5 := Lib.hid ((hk.old gb (block_lt Zb4.out) (fun e => Nd2.out e.symm)).trans Zb4.out)
          have HW5 := Lib.hid (HW4.out.trans (hk.bel.mono Na.out))
          go_simp
          rw [← hF]
          refine hK _ _ (HS.out _ HW5.out) ?_
          clear hK K hHeld
          have hHeld := HS.out _ HW5.out
          try simp only [Act.put, List.setIfInBounds_toArray, List.set_cons_zero, List.set_cons_succ]
          clear hF hk hm z0 z1 z2 zl zf0 zf1 zf2
          generalize F9 = v5 at *
          refine held_one (i := 9) (o := ?oi9u66) (by kernel_rfl) ?hi9u66 (fun K hK => ?rest9u66)
          case hi9u66 => (simp only [List.getElem?_toArray, List.getElem?_cons_succ, List.getElem?_cons_zero]; exact rfl)
          obtain ⟨z0, z1, z2, zl, zf0, zf1, zf2⟩ := cells3 Zb5.out
          obtain ⟨F9, hF, hm, hk⟩ := store_mr (n := l.length) (m := tr.length) (D := D2) (p := p2) (f := f2) Zb5.out
          have Zb6 := Lib.hid hm
          have Za6 := Lib.hid ((hk.old ga (block_lt Za5.out) Nd2.out).trans Za5.out)
          have HW6 := Lib.hid (HW5.out.trans (hk.bel.mono Nb.out))
          go_simp
          rw [← hF]
          refine hK _ _ (HS.out _ HW6.out) ?_
          clear hK K hHeld
          have hHeld := HS.out _ HW6.out
          try simp only [Act.put, List.setIfInBounds_toArray, List.set_cons_zero, List.set_cons_succ]
          clear hF hk hm z0 z1 z2 zl zf0 zf1 zf2
          generalize F9 = v6 at *
          refine wpAnyH_done (by kernel_rfl) ?_ _
          clear hHeld
          go_wp2_with fail
          go_meet
          exact ⟨ga, gb, rfl, rfl, Za6.out, Zb6.out, HW6.out⟩
  obtain ⟨ga, gb2, rfl, rfl, h1, h2, hbn⟩ := hcut
  replace HB0 := Lib.hid (HB0.out.below hbn)
  replace HOq := Lib.hid (HOq.out.below hbn)
  replace HD2 := Lib.hid (HD2.out.below hbn)
  replace HBA := Lib.hid (HBA.out.below hbn)
  replace HIA := Lib.hid (HIA.out.below hbn)
  replace HBE := Lib.hid (HBE.out.below hbn)
  replace HIE := Lib.hid (HIE.out.below hbn)
  replace HGA := Lib.hid (HGA.out.below hbn)
  replace HGE := Lib.hid (HGE.out.below hbn)
  replace HBR := Lib.hid (HBR.out.below hbn)
  replace HBT := Lib.hid (HBT.out.below hbn)
  replace HbX := Lib.hid (HbX.out.trans (hbn.mono HbX.out.size))
  clear hbn
  generalize wc = X at *
  have HMA := Lib.hid h1
  have HMB := Lib.hid h2
  clear h1 h2
  go_upto_region 16 with fail
  obtain ⟨A3, c3, B3, d3, ⟨hC3, hN3⟩, hY3⟩ := HBA.out.open
  obtain ⟨A4, c4, B4, d4, ⟨hC4, hN4⟩, hY4⟩ := HBE.out.open
  obtain ⟨A7, c7, B7, d7, ⟨hC7, hN7⟩, hY7⟩ := HBR.out.open
  obtain ⟨A8, c8, B8, d8, ⟨hC8, hN8⟩, hY8⟩ := HBT.out.open
  have hS : ∀ w', Below X.heap.size X w' → w'.cell? ⟨g3, 0, none⟩ = some (.slice A3 L.length c3) ∧ w'.cell? ⟨g3, 1, none⟩ = some (.slice B3 tr.length d3) ∧ w'.cell? ⟨g3, 2, none⟩ = some (.int .i64 r) ∧ w'.cell? ⟨g4, 0, none⟩ = some (.slice A4 L.length c4) ∧ w'.cell? ⟨g4, 1, none⟩ = some (.slice B4 tr.length d4) ∧ w'.cell? ⟨g4, 2, none⟩ = some (.int .i64 r) ∧ w'.cell? ⟨g5, 0, none⟩ = some (.slice A7 U1.length c7) ∧ w'.cell? ⟨g5, 1, none⟩ = some (.slice B7 U2.length d7) ∧ w'.cell? ⟨g5, 2, none⟩ = some (.int .i64 r) ∧ w'.cell? ⟨g6, 0, none⟩ = some (.slice A8 U1.length c8) ∧ w'.cell? ⟨g6, 1, none⟩ = some (.slice B8 U2.length d8) ∧ w'.cell? ⟨g6, 2, none⟩ = some (.int .i64 r) ∧ w'.cell? ⟨ga, 0, none⟩ = some (.int .i64 l.length) ∧ w'.cell? ⟨ga, 1, none⟩ = some (.int .i64 tr.length) ∧ w'.cell? ⟨ga, 2, none⟩ = some (.slice D2 p2 f2) ∧ w'.cell? ⟨gb2, 0, none⟩ = some (.int .i64 l.length) ∧ w'.cell? ⟨gb2, 1, none⟩ = some (.int .i64 tr.length) ∧ w'.cell? ⟨gb2, 2, none⟩ = some (.slice D2 p2 f2) := fun w' hb => by
    obtain ⟨p0, p1, p2, _⟩ := hY3 w' hb
    obtain ⟨q0, q1, q2, _⟩ := hY4 w' hb
    obtain ⟨s0, s1, s2, _⟩ := hY7 w' hb
    obtain ⟨t0, t1, t2, _⟩ := hY8 w' hb
    obtain ⟨u0, u1, u2, _⟩ := open3 ((hb.block _ (block_lt HMA.out)).trans HMA.out)
    obtain ⟨v0, v1, v2, _⟩ := open3 ((hb.block _ (block_lt HMB.out)).trans HMB.out)
    exact ⟨p0, p1, p2, q0, q1, q2, s0, s1, s2, t0, t1, t2, u0, u1, u2, v0, v1, v2⟩
  have Hs1 := Lib.hid (fun wx (hb : Below X.heap.size X wx) => sames8 OkL.out (hC3.below hb) (hN3.below hb) (hC4.below hb) (hN4.below hb))
  have Hs2 := Lib.hid (fun wx (hb : Below X.heap.size X wx) => (ints_yes9 (HIA.out.below hb) (HIE.out.below hb) (by have := HIA.out.len; omega)).mono fun _ _ h => h.v)
  have Hs3 := Lib.hid (fun wx (hb : Below X.heap.size X wx) => terms_yes (HGA.out.below hb) (HGE.out.below hb) (by have := HGA.out.len; omega) (by have := HGE.out.len; omega))
  have Hs4 := Lib.hid (fun wx (hb : Below X.heap.size X wx) => sames8 OkU.out (hC7.below hb) (hN7.below hb) (hC8.below hb) (hN8.below hb))
  have Hs5 := Lib.hid (fun wx (hb : Below X.heap.size X wx) => (ints_yes9 (HD2.out.below hb) (HD2.out.below hb) (by omega)).mono fun _ _ h => h.v)
  have Hs6 := Lib.hid (fun wx (hb : Below X.heap.size X wx) => hundo9 (R := D2) (k := p2) (kc := f2) (hC7.below hb) (hN7.below hb) OkU.out HstW.out)
  have Hs7 := Lib.hid (fun wx (hb : Below X.heap.size X wx) => qundo9 (R := D2) (k := p2) (kc := f2) (hC8.below hb) (hN8.below hb) OkU.out HstW.out)
  clear hC3 hN3 hY3 hC4 hN4 hY4 hC7 hN7 hY7 hC8 hN8 hY8
  refine wp_region_held_drew (S := fun w' => w'.cell? ⟨g3, 0, none⟩ = some (.slice A3 L.length c3) ∧ w'.cell? ⟨g3, 1, none⟩ = some (.slice B3 tr.length d3) ∧ w'.cell? ⟨g3, 2, none⟩ = some (.int .i64 r) ∧ w'.cell? ⟨g4, 0, none⟩ = some (.slice A4 L.length c4) ∧ w'.cell? ⟨g4, 1, none⟩ = some (.slice B4 tr.length d4) ∧ w'.cell? ⟨g4, 2, none⟩ = some (.int .i64 r) ∧ w'.cell? ⟨g5, 0, none⟩ = some (.slice A7 U1.length c7) ∧ w'.cell? ⟨g5, 1, none⟩ = some (.slice B7 U2.length d7) ∧ w'.cell? ⟨g5, 2, none⟩ = some (.int .i64 r) ∧ w'.cell? ⟨g6, 0, none⟩ = some (.slice A8 U1.length c8) ∧ w'.cell? ⟨g6, 1, none⟩ = some (.slice B8 U2.length d8) ∧ w'.cell? ⟨g6, 2, none⟩ = some (.int .i64 r) ∧ w'.cell? ⟨ga, 0, none⟩ = some (.int .i64 l.length) ∧ w'.cell? ⟨ga, 1, none⟩ = some (.int .i64 tr.length) ∧ w'.cell? ⟨ga, 2, none⟩ = some (.slice D2 p2 f2) ∧ w'.cell? ⟨gb2, 0, none⟩ = some (.int .i64 l.length) ∧ w'.cell? ⟨gb2, 1, none⟩ = some (.int .i64 tr.length) ∧ w'.cell? ⟨gb2, 2, none⟩ = some (.slice D2 p2 f2)) (by kernel_rfl) ?gs16 ?gr16
  case gs16 => exact hS _ (Below.refl _ _).drew
  case gr16 =>
    intro hHeld
    have HS := Lib.hid hS
    have HV : Hid (Below X.heap.size X X.drew) := Lib.hid ((Below.refl _ _).drew)
    clear hS HB0 HOq HD2 HBA HIA HBE HIE HGA HGE HBR HBT HMA HMB
    generalize X.drew = V at *

    refine takeH 0 hHeld ?_
    try simp only [Act.put, List.setIfInBounds_toArray, List.set_cons_zero, List.set_cons_succ]
    refine takeH 1 hHeld ?_
    try simp only [Act.put, List.setIfInBounds_toArray, List.set_cons_zero, List.set_cons_succ]
    refine held_one (i := 2) (o := ?oi2u69) (by kernel_rfl) ?hi2u69 (fun K hK => ?rest2u69)
    case hi2u69 => (simp only [List.getElem?_toArray, List.getElem?_cons_succ, List.getElem?_cons_zero]; exact rfl)
    go_simp
    go_at_call 14
    refine (Hs1.out _ HV.out).mono ?_
    rintro e w1 ⟨rfl, hb9⟩
    have H1 := Lib.hid (HV.out.trans (hb9.mono HV.out.size))
    clear hb9
    try go_simp
    have hHeld8 : (fun w' : World => w'.cell? ⟨g3, 0, none⟩ = some (.slice A3 L.length c3) ∧ w'.cell? ⟨g3, 1, none⟩ = some (.slice B3 tr.length d3) ∧ w'.cell? ⟨g3, 2, none⟩ = some (.int .i64 r) ∧ w'.cell? ⟨g4, 0, none⟩ = some (.slice A4 L.length c4) ∧ w'.cell? ⟨g4, 1, none⟩ = some (.slice B4 tr.length d4) ∧ w'.cell? ⟨g4, 2, none⟩ = some (.int .i64 r) ∧ w'.cell? ⟨g5, 0, none⟩ = some (.slice A7 U1.length c7) ∧ w'.cell? ⟨g5, 1, none⟩ = some (.slice B7 U2.length d7) ∧ w'.cell? ⟨g5, 2, none⟩ = some (.int .i64 r) ∧ w'.cell? ⟨g6, 0, none⟩ = some (.slice A8 U1.length c8) ∧ w'.cell? ⟨g6, 1, none⟩ = some (.slice B8 U2.length d8) ∧ w'.cell? ⟨g6, 2, none⟩ = some (.int .i64 r) ∧ w'.cell? ⟨ga, 0, none⟩ = some (.int .i64 l.length) ∧ w'.cell? ⟨ga, 1, none⟩ = some (.int .i64 tr.length) ∧ w'.cell? ⟨ga, 2, none⟩ = some (.slice D2 p2 f2) ∧ w'.cell? ⟨gb2, 0, none⟩ = some (.int .i64 l.length) ∧ w'.cell? ⟨gb2, 1, none⟩ = some (.int .i64 tr.length) ∧ w'.cell? ⟨gb2, 2, none⟩ = some (.slice D2 p2 f2)) w1 := HS.out _ H1.out
    refine hK _ _ hHeld8 ?_
    clear hK K hHeld
    have hHeld := hHeld8
    clear hHeld8
    try simp only [Act.put, List.setIfInBounds_toArray, List.set_cons_zero, List.set_cons_succ]
    refine takeH 3 hHeld ?_
    try simp only [Act.put, List.setIfInBounds_toArray, List.set_cons_zero, List.set_cons_succ]
    refine takeH 4 hHeld ?_
    try simp only [Act.put, List.setIfInBounds_toArray, List.set_cons_zero, List.set_cons_succ]
    refine takeH 5 hHeld ?_
    try simp only [Act.put, List.setIfInBounds_toArray, List.set_cons_zero, List.set_cons_succ]
    refine takeH 6 hHeld ?_
    try simp only [Act.put, List.setIfInBounds_toArray, List.set_cons_zero, List.set_cons_succ]
    refine takeH 7 hHeld ?_
    try simp only [Act.put, List.setIfInBounds_toArray, List.set_cons_zero, List.set_cons_succ]
    refine takeH 8 hHeld ?_
    try simp only [Act.put, List.setIfInBounds_toArray, List.set_cons_zero, List.set_cons_succ]
    refine takeH 9 hHeld ?_
    try simp only [Act.put, List.setIfInBounds_toArray, List.set_cons_zero, List.set_cons_succ]
    refine takeH 10 hHeld ?_
    try simp only [Act.put, List.setIfInBounds_toArray, List.set_cons_zero, List.set_cons_succ]
    refine held_one (i := 11) (o := ?oi11u78) (by kernel_rfl) ?hi11u78 (fun K hK => ?rest11u78)
    case hi11u78 => (simp only [List.getElem?_toArray, List.getElem?_cons_succ, List.getElem?_cons_zero]; exact rfl)
    go_simp
    go_at_call 27
    refine (Hs2.out _ H1.out).mono ?_
    rintro e w2 ⟨rfl, hb9⟩
    have H2 := Lib.hid (H1.out.trans (hb9.mono H1.out.size))
    clear hb9
    try go_simp
    have hHeld8 : (fun w' : World => w'.cell? ⟨g3, 0, none⟩ = some (.slice A3 L.length c3) ∧ w'.cell? ⟨g3, 1, none⟩ = some (.slice B3 tr.length d3) ∧ w'.cell? ⟨g3, 2, none⟩ = some (.int .i64 r) ∧ w'.cell? ⟨g4, 0, none⟩ = some (.slice A4 L.length c4) ∧ w'.cell? ⟨g4, 1, none⟩ = some (.slice B4 tr.length d4) ∧ w'.cell? ⟨g4, 2, none⟩ = some (.int .i64 r) ∧ w'.cell? ⟨g5, 0, none⟩ = some (.slice A7 U1.length c7) ∧ w'.cell? ⟨g5, 1, none⟩ = some (.slice B7 U2.length d7) ∧ w'.cell? ⟨g5, 2, none⟩ = some (.int .i64 r) ∧ w'.cell? ⟨g6, 0, none⟩ = some (.slice A8 U1.length c8) ∧ w'.cell? ⟨g6, 1, none⟩ = some (.slice B8 U2.length d8) ∧ w'.cell? ⟨g6, 2, none⟩ = some (.int .i64 r) ∧ w'.cell? ⟨ga, 0, none⟩ = some (.int .i64 l.length) ∧ w'.cell? ⟨ga, 1, none⟩ = some (.int .i64 tr.length) ∧ w'.cell? ⟨ga, 2, none⟩ = some (.slice D2 p2 f2) ∧ w'.cell? ⟨gb2, 0, none⟩ = some (.int .i64 l.length) ∧ w'.cell? ⟨gb2, 1, none⟩ = some (.int .i64 tr.length) ∧ w'.cell? ⟨gb2, 2, none⟩ = some (.slice D2 p2 f2)) w2 := HS.out _ H2.out
    refine hK _ _ hHeld8 ?_
    clear hK K hHeld
    have hHeld := hHeld8
    clear hHeld8
    try simp only [Act.put, List.setIfInBounds_toArray, List.set_cons_zero, List.set_cons_succ]
    refine takeH 12 hHeld ?_
    try simp only [Act.put, List.setIfInBounds_toArray, List.set_cons_zero, List.set_cons_succ]
    refine takeH 13 hHeld ?_
    try simp only [Act.put, List.setIfInBounds_toArray, List.set_cons_zero, List.set_cons_succ]
    refine takeH 14 hHeld ?_
    try simp only [Act.put, List.setIfInBounds_toArray, List.set_cons_zero, List.set_cons_succ]
    refine takeH 15 hHeld ?_
    try simp only [Act.put, List.setIfInBounds_toArray, List.set_cons_zero, List.set_cons_succ]
    refine takeH 16 hHeld ?_
    try simp only [Act.put, List.setIfInBounds_toArray, List.set_cons_zero, List.set_cons_succ]
    refine takeH 17 hHeld ?_
    try simp only [Act.put, List.setIfInBounds_toArray, List.set_cons_zero, List.set_cons_succ]
    refine takeH 18 hHeld ?_
    try simp only [Act.put, List.setIfInBounds_toArray, List.set_cons_zero, List.set_cons_succ]
    refine takeH 19 hHeld ?_
    try simp only [Act.put, List.setIfInBounds_toArray, List.set_cons_zero, List.set_cons_succ]
    refine takeH 20 hHeld ?_
    try simp only [Act.put, List.setIfInBounds_toArray, List.set_cons_zero, List.set_cons_succ]
    refine held_one (i := 21) (o := ?oi21u88) (by kernel_rfl) ?hi21u88 (fun K hK => ?rest21u88)
    case hi21u88 => (simp only [List.getElem?_toArray, List.getElem?_cons_succ, List.getElem?_cons_zero]; exact rfl)
    go_simp
    go_at_call 28
    refine (Hs3.out _ H2.out).mono ?_
    rintro e w3 ⟨rfl, hb9⟩
    have H3 := Lib.hid (H2.out.trans (hb9.mono H2.out.size))
    clear hb9
    try go_simp
    have hHeld8 : (fun w' : World => w'.cell? ⟨g3, 0, none⟩ = some (.slice A3 L.length c3) ∧ w'.cell? ⟨g3, 1, none⟩ = some (.slice B3 tr.length d3) ∧ w'.cell? ⟨g3, 2, none⟩ = some (.int .i64 r) ∧ w'.cell? ⟨g4, 0, none⟩ = some (.slice A4 L.length c4) ∧ w'.cell? ⟨g4, 1, none⟩ = some (.slice B4 tr.length d4) ∧ w'.cell? ⟨g4, 2, none⟩ = some (.int .i64 r) ∧ w'.cell? ⟨g5, 0, none⟩ = some (.slice A7 U1.length c7) ∧ w'.cell? ⟨g5, 1, none⟩ = some (.slice B7 U2.length d7) ∧ w'.cell? ⟨g5, 2, none⟩ = some (.int .i64 r) ∧ w'.cell? ⟨g6, 0, none⟩ = some (.slice A8 U1.length c8) ∧ w'.cell? ⟨g6, 1, none⟩ = some (.slice B8 U2.length d8) ∧ w'.cell? ⟨g6, 2, none⟩ = some (.int .i64 r) ∧ w'.cell? ⟨ga, 0, none⟩ = some (.int .i64 l.length) ∧ w'.cell? ⟨ga, 1, none⟩ = some (.int .i64 tr.length) ∧ w'.cell? ⟨ga, 2, none⟩ = some (.slice D2 p2 f2) ∧ w'.cell? ⟨gb2, 0, none⟩ = some (.int .i64 l.length) ∧ w'.cell? ⟨gb2, 1, none⟩ = some (.int .i64 tr.length) ∧ w'.cell? ⟨gb2, 2, none⟩ = some (.slice D2 p2 f2)) w3 := HS.out _ H3.out
    refine hK _ _ hHeld8 ?_
    clear hK K hHeld
    have hHeld := hHeld8
    clear hHeld8
    try simp only [Act.put, List.setIfInBounds_toArray, List.set_cons_zero, List.set_cons_succ]
    refine takeH 22 hHeld ?_
    try simp only [Act.put, List.setIfInBounds_toArray, List.set_cons_zero, List.set_cons_succ]
    refine takeH 23 hHeld ?_
    try simp only [Act.put, List.setIfInBounds_toArray, List.set_cons_zero, List.set_cons_succ]
    refine takeH 24 hHeld ?_
    try simp only [Act.put, List.setIfInBounds_toArray, List.set_cons_zero, List.set_cons_succ]
    refine takeH 25 hHeld ?_
    try simp only [Act.put, List.setIfInBounds_toArray, List.set_cons_zero, List.set_cons_succ]
    refine takeH 26 hHeld ?_
    try simp only [Act.put, List.setIfInBounds_toArray, List.set_cons_zero, List.set_cons_succ]
    refine takeH 27 hHeld ?_
    try simp only [Act.put, List.setIfInBounds_toArray, List.set_cons_zero, List.set_cons_succ]
    refine takeH 28 hHeld ?_
    try simp only [Act.put, List.setIfInBounds_toArray, List.set_cons_zero, List.set_cons_succ]
    refine takeH 29 hHeld ?_
    try simp only [Act.put, List.setIfInBounds_toArray, List.set_cons_zero, List.set_cons_succ]
    refine takeH 30 hHeld ?_
    try simp only [Act.put, List.setIfInBounds_toArray, List.set_cons_zero, List.set_cons_succ]
    refine held_one (i := 31) (o := ?oi31u98) (by kernel_rfl) ?hi31u98 (fun K hK => ?rest31u98)
    case hi31u98 => (simp only [List.getElem?_toArray, List.getElem?_cons_succ, List.getElem?_cons_zero]; exact rfl)
    go_simp
    go_at_call 14
    refine (Hs4.out _ H3.out).mono ?_
    rintro e w4 ⟨rfl, hb9⟩
    have H4 := Lib.hid (H3.out.trans (hb9.mono H3.out.size))
    clear hb9
    try go_simp
    have hHeld8 : (fun w' : World => w'.cell? ⟨g3, 0, none⟩ = some (.slice A3 L.length c3) ∧ w'.cell? ⟨g3, 1, none⟩ = some (.slice B3 tr.length d3) ∧ w'.cell? ⟨g3, 2, none⟩ = some (.int .i64 r) ∧ w'.cell? ⟨g4, 0, none⟩ = some (.slice A4 L.length c4) ∧ w'.cell? ⟨g4, 1, none⟩ = some (.slice B4 tr.length d4) ∧ w'.cell? ⟨g4, 2, none⟩ = some (.int .i64 r) ∧ w'.cell? ⟨g5, 0, none⟩ = some (.slice A7 U1.length c7) ∧ w'.cell? ⟨g5, 1, none⟩ = some (.slice B7 U2.length d7) ∧ w'.cell? ⟨g5, 2, none⟩ = some (.int .i64 r) ∧ w'.cell? ⟨g6, 0, none⟩ = some (.slice A8 U1.length c8) ∧ w'.cell? ⟨g6, 1, none⟩ = some (.slice B8 U2.length d8) ∧ w'.cell? ⟨g6, 2, none⟩ = some (.int .i64 r) ∧ w'.cell? ⟨ga, 0, none⟩ = some (.int .i64 l.length) ∧ w'.cell? ⟨ga, 1, none⟩ = some (.int .i64 tr.length) ∧ w'.cell? ⟨ga, 2, none⟩ = some (.slice D2 p2 f2) ∧ w'.cell? ⟨gb2, 0, none⟩ = some (.int .i64 l.length) ∧ w'.cell? ⟨gb2, 1, none⟩ = some (.int .i64 tr.length) ∧ w'.cell? ⟨gb2, 2, none⟩ = some (.slice D2 p2 f2)) w4 := HS.out _ H4.out
    refine hK _ _ hHeld8 ?_
    clear hK K hHeld
    have hHeld := hHeld8
    clear hHeld8
    try simp only [Act.put, List.setIfInBounds_toArray, List.set_cons_zero, List.set_cons_succ]
    refine takeH 32 hHeld ?_
    try simp only [Act.put, List.setIfInBounds_toArray, List.set_cons_zero, List.set_cons_succ]
    refine takeH 33 hHeld ?_
    try simp only [Act.put, List.setIfInBounds_toArray, List.set_cons_zero, List.set_cons_succ]
    refine takeH 34 hHeld ?_
    try simp only [Act.put, List.setIfInBounds_toArray, List.set_cons_zero, List.set_cons_succ]
    refine takeH 35 hHeld ?_
    try simp only [Act.put, List.setIfInBounds_toArray, List.set_cons_zero, List.set_cons_succ]
    refine takeH 36 hHeld ?_
    try simp only [Act.put, List.setIfInBounds_toArray, List.set_cons_zero, List.set_cons_succ]
    refine takeH 37 hHeld ?_
    try simp only [Act.put, List.setIfInBounds_toArray, List.set_cons_zero, List.set_cons_succ]
    refine takeH 38 hHeld ?_
    try simp only [Act.put, List.setIfInBounds_toArray, List.set_cons_zero, List.set_cons_succ]
    refine takeH 39 hHeld ?_
    try simp only [Act.put, List.setIfInBounds_toArray, List.set_cons_zero, List.set_cons_succ]
    refine takeH 40 hHeld ?_
    try simp only [Act.put, List.setIfInBounds_toArray, List.set_cons_zero, List.set_cons_succ]
    refine takeH 41 hHeld ?_
    try simp only [Act.put, List.setIfInBounds_toArray, List.set_cons_zero, List.set_cons_succ]
    refine takeH 42 hHeld ?_
    try simp only [Act.put, List.setIfInBounds_toArray, List.set_cons_zero, List.set_cons_succ]
    refine takeH 43 hHeld ?_
    try simp only [Act.put, List.setIfInBounds_toArray, List.set_cons_zero, List.set_cons_succ]
    refine takeH 44 hHeld ?_
    try simp only [Act.put, List.setIfInBounds_toArray, List.set_cons_zero, List.set_cons_succ]
    refine takeH 45 hHeld ?_
    try simp only [Act.put, List.setIfInBounds_toArray, List.set_cons_zero, List.set_cons_succ]
    refine takeH 46 hHeld ?_
    try simp only [Act.put, List.setIfInBounds_toArray, List.set_cons_zero, List.set_cons_succ]
    refine takeH 47 hHeld ?_
    try simp only [Act.put, List.setIfInBounds_toArray, List.set_cons_zero, List.set_cons_succ]
    refine takeH 48 hHeld ?_
    try simp only [Act.put, List.setIfInBounds_toArray, List.set_cons_zero, List.set_cons_succ]
    refine takeH 49 hHeld ?_
    try simp only [Act.put, List.setIfInBounds_toArray, List.set_cons_zero, List.set_cons_succ]
    refine takeH 50 hHeld ?_
    try simp only [Act.put, List.setIfInBounds_toArray, List.set_cons_zero, List.set_cons_succ]
    refine takeH 51 hHeld ?_
    try simp only [Act.put, List.setIfInBounds_toArray, List.set_cons_zero, List.set_cons_succ]
    refine takeH 52 hHeld ?_
    try simp only [Act.put, List.setIfInBounds_toArray, List.set_cons_zero, List.set_cons_succ]
    refine takeH 53 hHeld ?_
    try simp only [Act.put, List.setIfInBounds_toArray, List.set_cons_zero, List.set_cons_succ]
    refine takeH 54 hHeld ?_
    try simp only [Act.put, List.setIfInBounds_toArray, List.set_cons_zero, List.set_cons_succ]
    refine takeH 55 hHeld ?_
    try simp only [Act.put, List.setIfInBounds_toArray, List.set_cons_zero, List.set_cons_succ]
    refine takeH 56 hHeld ?_
    try simp only [Act.put, List.setIfInBounds_toArray, List.set_cons_zero, List.set_cons_succ]
    refine held_one (i := 57) (o := ?oi57u124) (by kernel_rfl) ?hi57u124 (fun K hK => ?rest57u124)
    case hi57u124 => (simp only [List.getElem?_toArray, List.getElem?_cons_succ, List.getElem?_cons_zero]; exact rfl)
    go_simp
    go_at_call 27
    refine (Hs5.out _ H4.out).mono ?_
    rintro e w5 ⟨rfl, hb9⟩
    have H5 := Lib.hid (H4.out.trans (hb9.mono H4.out.size))
    clear hb9
    try go_simp
    have hHeld8 : (fun w' : World => w'.cell? ⟨g3, 0, none⟩ = some (.slice A3 L.length c3) ∧ w'.cell? ⟨g3, 1, none⟩ = some (.slice B3 tr.length d3) ∧ w'.cell? ⟨g3, 2, none⟩ = some (.int .i64 r) ∧ w'.cell? ⟨g4, 0, none⟩ = some (.slice A4 L.length c4) ∧ w'.cell? ⟨g4, 1, none⟩ = some (.slice B4 tr.length d4) ∧ w'.cell? ⟨g4, 2, none⟩ = some (.int .i64 r) ∧ w'.cell? ⟨g5, 0, none⟩ = some (.slice A7 U1.length c7) ∧ w'.cell? ⟨g5, 1, none⟩ = some (.slice B7 U2.length d7) ∧ w'.cell? ⟨g5, 2, none⟩ = some (.int .i64 r) ∧ w'.cell? ⟨g6, 0, none⟩ = some (.slice A8 U1.length c8) ∧ w'.cell? ⟨g6, 1, none⟩ = some (.slice B8 U2.length d8) ∧ w'.cell? ⟨g6, 2, none⟩ = some (.int .i64 r) ∧ w'.cell? ⟨ga, 0, none⟩ = some (.int .i64 l.length) ∧ w'.cell? ⟨ga, 1, none⟩ = some (.int .i64 tr.length) ∧ w'.cell? ⟨ga, 2, none⟩ = some (.slice D2 p2 f2) ∧ w'.cell? ⟨gb2, 0, none⟩ = some (.int .i64 l.length) ∧ w'.cell? ⟨gb2, 1, none⟩ = some (.int .i64 tr.length) ∧ w'.cell? ⟨gb2, 2, none⟩ = some (.slice D2 p2 f2)) w5 := HS.out _ H5.out
    refine hK _ _ hHeld8 ?_
    clear hK K hHeld
    have hHeld := hHeld8
    clear hHeld8
    try simp only [Act.put, List.setIfInBounds_toArray, List.set_cons_zero, List.set_cons_succ]
    refine takeH 58 hHeld ?_
    try simp only [Act.put, List.setIfInBounds_toArray, List.set_cons_zero, List.set_cons_succ]
    refine takeH 59 hHeld ?_
    try simp only [Act.put, List.setIfInBounds_toArray, List.set_cons_zero, List.set_cons_succ]
    refine takeH 60 hHeld ?_
    try simp only [Act.put, List.setIfInBounds_toArray, List.set_cons_zero, List.set_cons_succ]
    refine takeH 61 hHeld ?_
    try simp only [Act.put, List.setIfInBounds_toArray, List.set_cons_zero, List.set_cons_succ]
    refine takeH 63 hHeld ?_
    try simp only [Act.put, List.setIfInBounds_toArray, List.set_cons_zero, List.set_cons_succ]
    refine takeH 64 hHeld ?_
    try simp only [Act.put, List.setIfInBounds_toArray, List.set_cons_zero, List.set_cons_succ]
    refine held_one (i := 62) (o := ?oi62u131) (by kernel_rfl) ?hi62u131 (fun K hK => ?rest62u131)
    case hi62u131 => (simp only [List.getElem?_toArray, List.getElem?_cons_succ, List.getElem?_cons_zero]; exact rfl)
    go_simp
    go_at_call 29
    refine (Hs6.out _ H5.out).mono ?_
    rintro e w6 hret
    unfold RetN9 at hret
    obtain ⟨A8', c8', B8', d8', rfl, hC8', hN8', hb9⟩ := hret
    have H6 := Lib.hid (H5.out.trans (hb9.mono H5.out.size))
    clear hb9
    try go_simp
    have hHeld8 : (fun w' : World => w'.cell? ⟨g3, 0, none⟩ = some (.slice A3 L.length c3) ∧ w'.cell? ⟨g3, 1, none⟩ = some (.slice B3 tr.length d3) ∧ w'.cell? ⟨g3, 2, none⟩ = some (.int .i64 r) ∧ w'.cell? ⟨g4, 0, none⟩ = some (.slice A4 L.length c4) ∧ w'.cell? ⟨g4, 1, none⟩ = some (.slice B4 tr.length d4) ∧ w'.cell? ⟨g4, 2, none⟩ = some (.int .i64 r) ∧ w'.cell? ⟨g5, 0, none⟩ = some (.slice A7 U1.length c7) ∧ w'.cell? ⟨g5, 1, none⟩ = some (.slice B7 U2.length d7) ∧ w'.cell? ⟨g5, 2, none⟩ = some (.int .i64 r) ∧ w'.cell? ⟨g6, 0, none⟩ = some (.slice A8 U1.length c8) ∧ w'.cell? ⟨g6, 1, none⟩ = some (.slice B8 U2.length d8) ∧ w'.cell? ⟨g6, 2, none⟩ = some (.int .i64 r) ∧ w'.cell? ⟨ga, 0, none⟩ = some (.int .i64 l.length) ∧ w'.cell? ⟨ga, 1, none⟩ = some (.int .i64 tr.length) ∧ w'.cell? ⟨ga, 2, none⟩ = some (.slice D2 p2 f2) ∧ w'.cell? ⟨gb2, 0, none⟩ = some (.int .i64 l.length) ∧ w'.cell? ⟨gb2, 1, none⟩ = some (.int .i64 tr.length) ∧ w'.cell? ⟨gb2, 2, none⟩ = some (.slice D2 p2 f2)) w6 := HS.out _ H6.out
    refine hK _ _ hHeld8 ?_
    clear hK K hHeld
    have hHeld := hHeld8
    clear hHeld8
    try simp only [Act.put, List.setIfInBounds_toArray, List.set_cons_zero, List.set_cons_succ]
    refine held_one (i := 65) (o := ?oi65u132) (by kernel_rfl) ?hi65u132 (fun K hK => ?rest65u132)
    case hi65u132 => (simp only [List.getElem?_toArray, List.getElem?_cons_succ, List.getElem?_cons_zero]; exact rfl)
    go_simp
    go_at_call 30
    refine (Hs7.out _ H6.out).mono ?_
    rintro e w7 hret
    unfold RetN9 at hret
    obtain ⟨A9', c9', B9', d9', rfl, hC9', hN9', hb9⟩ := hret
    have hb8' := hb9
    have H7 := Lib.hid (H6.out.trans (hb9.mono H6.out.size))
    clear hb9
    try go_simp
    have hHeld8 : (fun w' : World => w'.cell? ⟨g3, 0, none⟩ = some (.slice A3 L.length c3) ∧ w'.cell? ⟨g3, 1, none⟩ = some (.slice B3 tr.length d3) ∧ w'.cell? ⟨g3, 2, none⟩ = some (.int .i64 r) ∧ w'.cell? ⟨g4, 0, none⟩ = some (.slice A4 L.length c4) ∧ w'.cell? ⟨g4, 1, none⟩ = some (.slice B4 tr.length d4) ∧ w'.cell? ⟨g4, 2, none⟩ = some (.int .i64 r) ∧ w'.cell? ⟨g5, 0, none⟩ = some (.slice A7 U1.length c7) ∧ w'.cell? ⟨g5, 1, none⟩ = some (.slice B7 U2.length d7) ∧ w'.cell? ⟨g5, 2, none⟩ = some (.int .i64 r) ∧ w'.cell? ⟨g6, 0, none⟩ = some (.slice A8 U1.length c8) ∧ w'.cell? ⟨g6, 1, none⟩ = some (.slice B8 U2.length d8) ∧ w'.cell? ⟨g6, 2, none⟩ = some (.int .i64 r) ∧ w'.cell? ⟨ga, 0, none⟩ = some (.int .i64 l.length) ∧ w'.cell? ⟨ga, 1, none⟩ = some (.int .i64 tr.length) ∧ w'.cell? ⟨ga, 2, none⟩ = some (.slice D2 p2 f2) ∧ w'.cell? ⟨gb2, 0, none⟩ = some (.int .i64 l.length) ∧ w'.cell? ⟨gb2, 1, none⟩ = some (.int .i64 tr.length) ∧ w'.cell? ⟨gb2, 2, none⟩ = some (.slice D2 p2 f2)) w7 := HS.out _ H7.out
    refine hK _ _ hHeld8 ?_
    clear hK K hHeld
    have hHeld := hHeld8
    clear hHeld8
    try simp only [Act.put, List.setIfInBounds_toArray, List.set_cons_zero, List.set_cons_succ]
    have Hs8 := Lib.hid (sames8 Hok.out (hC8'.below hb8') (hN8'.below hb8') hC9' hN9')
    clear hC8' hN8' hC9' hN9' hb8'
    refine held_one (i := 66) (o := ?oi66u133) (by kernel_rfl) ?hi66u133 (fun K hK => ?rest66u133)
    case hi66u133 => (simp only [List.getElem?_toArray, List.getElem?_cons_succ, List.getElem?_cons_zero]; exact rfl)
    go_simp
    go_at_call 14
    refine (Hs8.out).mono ?_
    rintro e w8 ⟨rfl, hb9⟩
    have H8 := Lib.hid (H7.out.trans (hb9.mono H7.out.size))
    clear hb9
    try go_simp
    have hHeld8 : (fun w' : World => w'.cell? ⟨g3, 0, none⟩ = some (.slice A3 L.length c3) ∧ w'.cell? ⟨g3, 1, none⟩ = some (.slice B3 tr.length d3) ∧ w'.cell? ⟨g3, 2, none⟩ = some (.int .i64 r) ∧ w'.cell? ⟨g4, 0, none⟩ = some (.slice A4 L.length c4) ∧ w'.cell? ⟨g4, 1, none⟩ = some (.slice B4 tr.length d4) ∧ w'.cell? ⟨g4, 2, none⟩ = some (.int .i64 r) ∧ w'.cell? ⟨g5, 0, none⟩ = some (.slice A7 U1.length c7) ∧ w'.cell? ⟨g5, 1, none⟩ = some (.slice B7 U2.length d7) ∧ w'.cell? ⟨g5, 2, none⟩ = some (.int .i64 r) ∧ w'.cell? ⟨g6, 0, none⟩ = some (.slice A8 U1.length c8) ∧ w'.cell? ⟨g6, 1, none⟩ = some (.slice B8 U2.length d8) ∧ w'.cell? ⟨g6, 2, none⟩ = some (.int .i64 r) ∧ w'.cell? ⟨ga, 0, none⟩ = some (.int .i64 l.length) ∧ w'.cell? ⟨ga, 1, none⟩ = some (.int .i64 tr.length) ∧ w'.cell? ⟨ga, 2, none⟩ = some (.slice D2 p2 f2) ∧ w'.cell? ⟨gb2, 0, none⟩ = some (.int .i64 l.length) ∧ w'.cell? ⟨gb2, 1, none⟩ = some (.int .i64 tr.length) ∧ w'.cell? ⟨gb2, 2, none⟩ = some (.slice D2 p2 f2)) w8 := HS.out _ H8.out
    refine hK _ _ hHeld8 ?_
    clear hK K hHeld
    have hHeld := hHeld8
    clear hHeld8
    try simp only [Act.put, List.setIfInBounds_toArray, List.set_cons_zero, List.set_cons_succ]
    refine takeH 67 hHeld ?_
    try simp only [Act.put, List.setIfInBounds_toArray, List.set_cons_zero, List.set_cons_succ]
    refine takeH 68 hHeld ?_
    try simp only [Act.put, List.setIfInBounds_toArray, List.set_cons_zero, List.set_cons_succ]
    refine takeH 69 hHeld ?_
    try simp only [Act.put, List.setIfInBounds_toArray, List.set_cons_zero, List.set_cons_succ]
    refine takeH 70 hHeld ?_
    try simp only [Act.put, List.setIfInBounds_toArray, List.set_cons_zero, List.set_cons_succ]
    refine takeH 71 hHeld ?_
    try simp only [Act.put, List.setIfInBounds_toArray, List.set_cons_zero, List.set_cons_succ]
    refine wpAnyH_done (by kernel_rfl) ?_ _
    clear hHeld
    go_wp2
    refine bodyPost_ret (v := .bool true) (by simp [results, Try.results3, go_sem, *]) rfl ?_
    exact ⟨rfl, HbX.out.trans (H8.out.mono HbX.out.size)⟩
end Go.Proofs.Ytlndjooddkjnoaa
