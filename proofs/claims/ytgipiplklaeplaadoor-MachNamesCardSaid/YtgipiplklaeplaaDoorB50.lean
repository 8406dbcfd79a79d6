/- Texts of this proof that belong together: words of memory, plain laws, walks. -/
import Derived.WalkMore
import Derived.Test.YtgipiplklaeplaaDoorB09
import Derived.Test.YtgipiplklaeplaaDoorB37
import Derived.Test.YtgipiplklaeplaaDoorB46
import Derived.Test.YtgipiplklaeplaaDoorB49
set_option linter.unusedVariables false
set_option linter.unusedSimpArgs false
namespace Go.Proofs.YtgipiplklaeplaaDoor
open Go.RowKit
set_option maxRecDepth 100000 in
set_option maxHeartbeats 8000000 in
theorem machNames_walk (A : Option Addr) (n c : Nat) (t : List C) (A1 : Option Addr) (n1 c1 : Nat) (t1 : List C) (B1 : Option Addr) (m1 e1 : Nat) (b : List (Bool × List C)) (x y : Int) (w : World)
  (h : IsC w A n c t) (h1 : IsC w A1 n1 c1 t1) (hB1 : IsLs w B1 m1 e1 b) (hx : (Lit.int .u8 x).wf = true) (hy : (Lit.int .u8 y).wf = true) (hdt : DT w) :
  Calls Tryd.prog 6 #[.slice A n c, .agg #[.slice A1 n1 c1, .slice B1 m1 e1], .agg #[.int .u8 x, .int .u8 y]] w (RetV w (.bool true)) := by
 have hatom := fun X (hb : Below w.heap.size w X) => atom11_any A n c t X (h.below hb)
 have Hdt := Lib.hid hdt
 cases ha : (decide (t.length ≤ 40) && atomB t)
 ·rw [ha] at hatom
  have Hatom := Lib.hid hatom
  clear ha hatom h h1 hB1 hx hy hdt
  go_enter Tryd.func6, Tryd.ntmps6
  go_upto_region 1 with fail
  refine wp_world' (Φ := fun X => Below w.heap.size w X ∧ CB X w.heap.size A1 n1 c1 B1 m1 e1 ∧ X.heap[w.heap.size + 1]? = some (.cells #[.int .u8 x, .int .u8 y] 77 (0, 0))) ⟨(bas _ _).alloc (by simp) _, (alloc_past (by simp)).trans (alloc_at rfl), alloc_at (by simp)⟩ ?_
  rintro X ⟨hbX, hK1, hK2⟩
  obtain ⟨g2, hg2⟩ : ∃ g2, g2 = w.heap.size + 1 := ⟨_, rfl⟩
  obtain ⟨g1, hg1⟩ : ∃ g1, g1 = w.heap.size := ⟨_, rfl⟩
  rw [← hg2] at hK2
  rw [← hg1] at hK1
  try rw [← hg2]
  try rw [← hg1]
  have Hgw := Lib.hid (show w.heap.size ≤ g1 ∧ g1 < g2 by omega)
  clear hg1 hg2
  obtain ⟨z0, z1, zl⟩ := open2 hK1
  obtain ⟨u0, u1, ul⟩ := open2 hK2
  go_wp2_with fail
  refine (head11_any _ (Hdt.out.below hbX)).mono ?_
  rintro e0 X0 ⟨rfl, hbn⟩
  replace hK2 := (hbn.block _ (block_lt hK2)).trans hK2
  replace hK1 := hK1.below hbn
  replace hbX := hbX.trans (hbn.mono hbX.size)
  clear hbn z0 z1 zl u0 u1 ul
  obtain ⟨z0, z1, zl⟩ := open2 hK1
  obtain ⟨u0, u1, ul⟩ := open2 hK2
  go_wp2_with fail
  refine (Hatom.out _ hbX).mono ?_
  rintro e3 X1 ⟨rfl, hbn⟩
  replace hK2 := (hbn.block _ (block_lt hK2)).trans hK2
  replace hK1 := hK1.below hbn
  replace hbX := hbX.trans (hbn.mono hbX.size)
  clear hbn z0 z1 zl u0 u1 ul
  obtain ⟨z0, z1, zl⟩ := open2 hK1
  obtain ⟨u0, u1, ul⟩ := open2 hK2
  go_wp2
  go_ret
  exact ⟨rfl, hbX⟩
 rw [ha] at hatom
 have Hatom := Lib.hid hatom
 have hfew := fun X (hb : Below w.heap.size w X) => few11 X (h1.below hb) (IsG.below keepsLit hB1 hb)
 cases hf : fewB (t1, b) 40
 ·rw [hf] at hfew
  have Hfew := Lib.hid hfew
  clear ha hf hatom hfew h h1 hB1 hx hy hdt
  go_enter Tryd.func6, Tryd.ntmps6
  go_upto_region 1 with fail
  refine wp_world' (Φ := fun X => Below w.heap.size w X ∧ CB X w.heap.size A1 n1 c1 B1 m1 e1 ∧ X.heap[w.heap.size + 1]? = some (.cells #[.int .u8 x, .int .u8 y] 77 (0, 0))) ⟨(bas _ _).alloc (by simp) _, (alloc_past (by simp)).trans (alloc_at rfl), alloc_at (by simp)⟩ ?_
  rintro X ⟨hbX, hK1, hK2⟩
  obtain ⟨g2, hg2⟩ : ∃ g2, g2 = w.heap.size + 1 := ⟨_, rfl⟩
  obtain ⟨g1, hg1⟩ : ∃ g1, g1 = w.heap.size := ⟨_, rfl⟩
  rw [← hg2] at hK2
  rw [← hg1] at hK1
  try rw [← hg2]
  try rw [← hg1]
  have Hgw := Lib.hid (show w.heap.size ≤ g1 ∧ g1 < g2 by omega)
  clear hg1 hg2
  obtain ⟨z0, z1, zl⟩ := open2 hK1
  obtain ⟨u0, u1, ul⟩ := open2 hK2
  go_wp2_with fail
  refine (head11_any _ (Hdt.out.below hbX)).mono ?_
  rintro e0 X0 ⟨rfl, hbn⟩
  replace hK2 := (hbn.block _ (block_lt hK2)).trans hK2
  replace hK1 := hK1.below hbn
  replace hbX := hbX.trans (hbn.mono hbX.size)
  clear hbn z0 z1 zl u0 u1 ul
  obtain ⟨z0, z1, zl⟩ := open2 hK1
  obtain ⟨u0, u1, ul⟩ := open2 hK2
  go_wp2_with fail
  refine (Hatom.out _ hbX).mono ?_
  rintro e3 X1 ⟨rfl, hbn⟩
  replace hK2 := (hbn.block _ (block_lt hK2)).trans hK2
  replace hK1 := hK1.below hbn
  replace hbX := hbX.trans (hbn.mono hbX.size)
  clear hbn z0 z1 zl u0 u1 ul
  obtain ⟨z0, z1, zl⟩ := open2 hK1
  obtain ⟨u0, u1, ul⟩ := open2 hK2
  go_wp2_with fail
  refine (Hfew.out _ hbX).mono ?_
  rintro e4 X2 ⟨rfl, hbn⟩
  replace hK2 := (hbn.block _ (block_lt hK2)).trans hK2
  replace hK1 := hK1.below hbn
  replace hbX := hbX.trans (hbn.mono hbX.size)
  clear hbn z0 z1 zl u0 u1 ul
  obtain ⟨z0, z1, zl⟩ := open2 hK1
  obtain ⟨u0, u1, ul⟩ := open2 hK2
  go_wp2
  go_ret
  exact ⟨rfl, hbX⟩
 rw [hf] at hfew
 have Hfew := Lib.hid hfew
 obtain ⟨cl, hcl, hsm⟩ := fewB_cls hf
 obtain ⟨r1, r2, r3⟩ := small_rows hcl hsm
 try simp only at r1 r2 r3
 obtain ⟨s, us0, hfl, hok, hsz⟩ := atom_tm ha
 obtain ⟨us, hf1, hok1, hsz1, hv1, hk1⟩ := num_atom hok hsz
 rw [hfl] at hf1
 have hvA : ∀ d ∈ (Tm.f s us).flat, d.kind = 1 → 0 ≤ d.n ∧ d.n ≤ 359 := fun d hd hk => by have := hv1 d hd hk; omega
 obtain ⟨vh, vb⟩ := num_small hcl hsm
 have hnc := numCls_is hcl
 have hns := small_ren hsm (placeI (numV cl))
 have hx2 := u8R hx
 have hy2 := u8R hy
 have hmv := moved_cls hnc (v := y) (by omega) vh vb
 have hms := small_ren hns (fun n => n + y)
 obtain ⟨q1, q2, q3⟩ := shift_atom hok1 hsz1 (v := x) (by omega) hvA
 have hlaw := resZ_names (x := x) (y := y) hnc hns hok1 hsz1 (by omega) (by omega) hvA vh vb
 have hCeq := resZ_C hnc hok1 (show (Tm.f s us).size ≤ 200 by omega) 4096
 have hnr : numR (t1, b) = numC cl := numR_cls hcl
 have hnum1 := fun X (hb : Below w.heap.size w X) => rNumber_any A n c t X (h.below hb) (by have := h.len; have := flat_size (Tm.f s us0); rw [hfl] at this; omega)
 have hnum2 := fun X (hb : Below w.heap.size w X) => num11 X (h1.below hb) (IsG.below keepsLit hB1 hb) (by omega) (fun x hx => by have := r2 x hx; omega) (by omega)
 rw [hnr] at hnum2
 rw [← hf1] at hnum1
 have hshort : (numC cl).1.length ≤ 40 ∧ (numC cl).2.length ≤ 8 ∧ ∀ p ∈ (numC cl).2, p.2.length ≤ 40 := by
  obtain ⟨s1, s2, s3⟩ := small_rows hnc hns
  exact ⟨s1, s3, s2⟩
 obtain ⟨R, hR⟩ : ∃ R, R = numC cl := ⟨_, rfl⟩
 obtain ⟨cq, hcq⟩ : ∃ cq, cq = numCls cl := ⟨_, rfl⟩
 have hcq2 : cl.ren (placeI (numV cl)) = cq := hcq.symm
 obtain ⟨cm, hcm⟩ : ∃ cm, cm = cq.ren (fun n => n + y) := ⟨_, rfl⟩
 rw [hcq2] at hns hms
 rw [← hR] at hnum2 hshort hnc hmv
 rw [← hcq] at hnc hmv hlaw hCeq
 rw [← hcm] at hmv hlaw hms
 have hn8 : ∀ (X : World) A n c, IsC X A n c (Tm.f s us).flat → n ≤ 40 := fun X A n c h => by have := h.len; rw [flat_size] at this; omega
 have hsh := fun R' (hq : resC (Tm.f s us) cq 4096 = .inl R') => resC_short hq
 have Hnum1 := Lib.hid hnum1
 have Hnum2 := Lib.hid hnum2
 have HS := Lib.hid hshort
 have Hnc := Lib.hid hnc
 have Hns := Lib.hid hns
 have Hmv := Lib.hid hmv
 have Hms := Lib.hid hms
 have Hlaw := Lib.hid hlaw
 have HCeq := Lib.hid hCeq
 have Hsh := Lib.hid hsh
 have Hok1 := Lib.hid (And.intro hok1 hsz1)
 have Hok2 := Lib.hid (And.intro q2 q3)
 have Hq1 := Lib.hid q1
 have Hn8 := Lib.hid hn8
 clear ha hf hatom hfew h h1 hB1 hx hy hdt r1 r2 r3 hfl hok hsz hf1 hok1 hsz1 hv1 hk1 hvA vh vb hnc hns hmv hms q1 q2 q3 hlaw hCeq hnr hnum1 hnum2 hshort hR hcq hcq2 hcm hn8 hsh hcl hsm
 go_enter Tryd.func6, Tryd.ntmps6
 go_upto_region 1 with fail
 refine wp_world' (Φ := fun X => Below w.heap.size w X ∧ CB X w.heap.size A1 n1 c1 B1 m1 e1 ∧ X.heap[w.heap.size + 1]? = some (.cells #[.int .u8 x, .int .u8 y] 77 (0, 0))) ⟨(bas _ _).alloc (by simp) _, (alloc_past (by simp)).trans (alloc_at rfl), alloc_at (by simp)⟩ ?_
 rintro X ⟨hbX, hK1, hK2⟩
 obtain ⟨g2, hg2⟩ : ∃ g2, g2 = w.heap.size + 1 := ⟨_, rfl⟩
 obtain ⟨g1, hg1⟩ : ∃ g1, g1 = w.heap.size := ⟨_, rfl⟩
 rw [← hg2] at hK2
 rw [← hg1] at hK1
 try rw [← hg2]
 try rw [← hg1]
 have Hgw := Lib.hid (show w.heap.size ≤ g1 ∧ g1 < g2 by omega)
 clear hg1 hg2
 obtain ⟨z0, z1, zl⟩ := open2 hK1
 obtain ⟨u0, u1, ul⟩ := open2 hK2
 go_wp2_with fail
 refine (head11_any _ (Hdt.out.below hbX)).mono ?_
 rintro e0 X0 ⟨rfl, hbn⟩
 replace hK2 := (hbn.block _ (block_lt hK2)).trans hK2
 replace hK1 := hK1.below hbn
 replace hbX := hbX.trans (hbn.mono hbX.size)
 clear hbn z0 z1 zl u0 u1 ul
 obtain ⟨z0, z1, zl⟩ := open2 hK1
 obtain ⟨u0, u1, ul⟩ := open2 hK2
 go_wp2_with fail
 refine (Hatom.out _ hbX).mono ?_
 rintro e3 X1 ⟨rfl, hbn⟩
 replace hK2 := (hbn.block _ (block_lt hK2)).trans hK2
 replace hK1 := hK1.below hbn
 replace hbX := hbX.trans (hbn.mono hbX.size)
 clear hbn z0 z1 zl u0 u1 ul
 obtain ⟨z0, z1, zl⟩ := open2 hK1
 obtain ⟨u0, u1, ul⟩ := open2 hK2
 go_wp2_with fail
 refine (Hfew.out _ hbX).mono ?_
 rintro e4 X2 ⟨rfl, hbn⟩
 replace hK2 := (hbn.block _ (block_lt hK2)).trans hK2
 replace hK1 := hK1.below hbn
 replace hbX := hbX.trans (hbn.mono hbX.size)
 clear hbn z0 z1 zl u0 u1 ul
 obtain ⟨z0, z1, zl⟩ := open2 hK1
 obtain ⟨u0, u1, ul⟩ := open2 hK2
 go_wp2_with fail
 refine (Hnum1.out _ hbX).mono ?_
 rintro e5 X3 ⟨A4, n4, c4, rfl, hC4, hbn⟩
 replace hK2 := (hbn.block _ (block_lt hK2)).trans hK2
 replace hK1 := hK1.below hbn
 replace hbX := hbX.trans (hbn.mono hbX.size)
 clear hbn z0 z1 zl u0 u1 ul
 obtain ⟨z0, z1, zl⟩ := open2 hK1
 obtain ⟨u0, u1, ul⟩ := open2 hK2
 have HC4 := Lib.hid hC4
 clear hC4
 go_wp2_with fail
 refine (Hnum2.out _ hbX).mono ?_
 rintro e6 X4 ⟨A5, n5, c5, B5, m5, d5, rfl, hA5, hB5, hbn⟩
 replace hK2 := (hbn.block _ (block_lt hK2)).trans hK2
 replace hK1 := hK1.below hbn
 replace hbX := hbX.trans (hbn.mono hbX.size)
 have hC4 := HC4.out.below hbn
 clear hbn z0 z1 zl u0 u1 ul HC4
 obtain ⟨st1, st2⟩ := hK1.store A5 n5 c5 B5 m5 d5
 have hV : Below w.heap.size w ((X4.setCell ⟨g1, 0, none⟩ (.slice A5 n5 c5)).setCell ⟨g1, 1, none⟩ (.slice B5 m5 d5)) ∧ CB ((X4.setCell ⟨g1, 0, none⟩ (.slice A5 n5 c5)).setCell ⟨g1, 1, none⟩ (.slice B5 m5 d5)) g1 A5 n5 c5 B5 m5 d5 ∧ ((X4.setCell ⟨g1, 0, none⟩ (.slice A5 n5 c5)).setCell ⟨g1, 1, none⟩ (.slice B5 m5 d5)).heap[g2]? = some (.cells #[.int .u8 x, .int .u8 y] 77 (0, 0)) ∧ IsC ((X4.setCell ⟨g1, 0, none⟩ (.slice A5 n5 c5)).setCell ⟨g1, 1, none⟩ (.slice B5 m5 d5)) A4 n4 c4 (Tm.f s us).flat ∧ IsC ((X4.setCell ⟨g1, 0, none⟩ (.slice A5 n5 c5)).setCell ⟨g1, 1, none⟩ (.slice B5 m5 d5)) A5 n5 c5 R.1 ∧ IsLs ((X4.setCell ⟨g1, 0, none⟩ (.slice A5 n5 c5)).setCell ⟨g1, 1, none⟩ (.slice B5 m5 d5)) B5 m5 d5 R.2 :=
  ⟨hbX.trans (st2.bel.mono Hgw.out.1), st1, (st2.old g2 (block_lt hK2) (by have := Hgw.out.2; omega)).trans hK2, isC_kq hC4 st2 hK1, isC_kq hA5 st2 hK1, isLs_kq hB5 st2 hK1⟩
 obtain ⟨z0, z1, zl⟩ := open2 hK1
 have f0 := frozen_of hK1 0
 have f1 := frozen_of hK1 1
 have HV := Lib.hid hV
 clear hV st1 st2 hC4 hA5 hB5
 go_upto_region 6 with fail
 refine wp_world' (Φ := fun V => Below w.heap.size w V ∧ CB V g1 A5 n5 c5 B5 m5 d5 ∧ V.heap[g2]? = some (.cells #[.int .u8 x, .int .u8 y] 77 (0, 0)) ∧ IsC V A4 n4 c4 (Tm.f s us).flat ∧ IsC V A5 n5 c5 R.1 ∧ IsLs V B5 m5 d5 R.2) HV.out ?_
 rintro V ⟨hbV, hK1V, hK2V, hC4V, hA5V, hB5V⟩
 clear HV z0 z1 zl f0 f1 hK1 hK2 hbX
 obtain ⟨z0, z1, zl⟩ := open2 hK1V
 obtain ⟨u0, u1, ul⟩ := open2 hK2V
 have hn4 := Hn8.out V A4 n4 c4 hC4V
 have hshift := fun X (hb : Below V.heap.size V X) => rShift_any A4 n4 c4 (Tm.f s us).flat x X (hC4V.below hb) (by omega)
 rw [← Hq1.out] at hshift
 have hmoved := fun X (hb : Below V.heap.size V X) => rMoved_any A5 n5 c5 R.1 B5 m5 d5 R.2 y X (hA5V.below hb) (IsG.below keepsLit hB5V hb) (by have := hA5V.len; have := HS.out.1; omega) (by have := hB5V.len; have := HS.out.2.1; omega) (fun p hp => by have := HS.out.2.2 p hp; omega)
 have Hshift := Lib.hid hshift
 have Hmoved := Lib.hid hmoved
 have HSc := Lib.hid (show ∀ w', Below V.heap.size V w' → w'.cell? ⟨g1, 0, none⟩ = some (.slice A5 n5 c5) ∧ w'.cell? ⟨g1, 1, none⟩ = some (.slice B5 m5 d5) ∧ w'.cell? ⟨g2, 0, none⟩ = some (.int .u8 x) ∧ w'.cell? ⟨g2, 1, none⟩ = some (.int .u8 y) from fun w' hb => ⟨(hb.cell (p := ⟨g1, 0, none⟩) zl).trans z0, (hb.cell (p := ⟨g1, 1, none⟩) zl).trans z1, (hb.cell (p := ⟨g2, 0, none⟩) ul).trans u0, (hb.cell (p := ⟨g2, 1, none⟩) ul).trans u1⟩)
 have Hall := Lib.hid (And.intro hbV (And.intro hK1V (And.intro hC4V (And.intro hA5V hB5V))))
 clear hshift hmoved hbV hK1V hK2V hC4V hA5V hB5V z0 z1 zl u0 u1 ul
 go_cut [8, 9] from 30 to 39 (fun v8 v9 wx => ∃ A8 n8 c8 gz A9 n9 c9 B9 m9 d9, v8 = .slice A8 n8 c8 ∧ v9 = .pointer (some ⟨gz, 0, none⟩) ∧ IsC wx A8 n8 c8 (Tm.f s (rens (fun n => n + x) us)).flat ∧ CB wx gz A9 n9 c9 B9 m9 d9 ∧ IsC wx A9 n9 c9 (movedR R y).1 ∧ IsLs wx B9 m9 d9 (movedR R y).2 ∧ Below V.heap.size V wx)
 case first =>
  refine wp_region_held_drew (S := fun w' => w'.cell? ⟨g1, 0, none⟩ = some (.slice A5 n5 c5) ∧ w'.cell? ⟨g1, 1, none⟩ = some (.slice B5 m5 d5) ∧ w'.cell? ⟨g2, 0, none⟩ = some (.int .u8 x) ∧ w'.cell? ⟨g2, 1, none⟩ = some (.int .u8 y)) (by kernel_rfl) ?gs6 ?gr6
  case gs6 => exact HSc.out _ (Below.refl _ _).drew
  case gr6 =>
   intro hHeld
   have HW := Lib.hid ((Below.refl V.heap.size V).drew)
   generalize V.drew = W0 at *
   refine stepH 0 hHeld ?_
   refine stepH 1 hHeld ?_
   refine stepH 2 hHeld ?_
   refine stepH 3 hHeld ?_
   refine stepH 5 hHeld ?_
   refine stepH 6 hHeld ?_
   refine stepH 7 hHeld ?_
   refine stepH 8 hHeld ?_
   have hwx : IntKind.i64.wrap x = x := IntWalk.i64_in x (by omega)
   have hwy : IntKind.i64.wrap y = y := IntWalk.i64_in y (by omega)
   try rw [hwx]
   try rw [hwy]
   clear hwx hwy
   refine held_two (i := 4) (j := 10) (oi := ?oi4u1) (oj := ?oi10u1) (by kernel_rfl) ?hi4u1 ?hi10u1 (fun K hK => ?rest4u1) (fun K hK => ?rest10u1)
   case hi4u1 => (simp only [List.getElem?_toArray, List.getElem?_cons_succ, List.getElem?_cons_zero]; exact rfl)
   case hi10u1 => (simp only [List.getElem?_toArray, List.getElem?_cons_succ, List.getElem?_cons_zero]; exact rfl)
   ·skip
    go_simp
    go_at_call 33
    refine (Hshift.out _ HW.out).mono ?_
    rintro e8 U1 ⟨A8, n8, c8, rfl, hC8, hb1⟩
    have HU1 := Lib.hid (HW.out.trans (hb1.mono HW.out.size))
    have HC8 := Lib.hid hC8
    skip
    clear hC8 hb1
    try go_simp
    refine hK _ _ (HSc.out _ HU1.out) ?_
    clear hK K hHeld
    have hHeld := HSc.out _ HU1.out
    try simp only [Act.put, sA, sZ, sS]
    refine held_two (i := 9) (j := 10) (oi := ?oi9u2) (oj := ?oi10u2) (by kernel_rfl) ?hi9u2 ?hi10u2 (fun K hK => ?rest9u2) (fun K hK => ?rest10u2)
    case hi9u2 => (simp only [List.getElem?_toArray, List.getElem?_cons_succ, List.getElem?_cons_zero]; exact rfl)
    case hi10u2 => (simp only [List.getElem?_toArray, List.getElem?_cons_succ, List.getElem?_cons_zero]; exact rfl)
    ·skip
     go_simp
     go_at_call 26
     refine (Hmoved.out _ HU1.out).mono ?_
     rintro e9 U2 ⟨A9, n9, c9, B9, m9, d9, rfl, hC9, hB9, hb2⟩
     have HU2 := Lib.hid (HU1.out.trans (hb2.mono HU1.out.size))
     have HC8' := Lib.hid (HC8.out.below hb2)
     have HC9 := Lib.hid hC9
     have HB9 := Lib.hid hB9
     skip
     clear hC9 hB9 hb2 HC8
     try go_simp
     refine hK _ _ (HSc.out _ HU2.out) ?_
     clear hK K hHeld
     have hHeld := HSc.out _ HU2.out
     try simp only [Act.put, sA, sZ, sS]
     refine oneH 10 (fun K hK => ?_)
     go_simp
     have HY := Lib.hid (HU2.out.alloc HU2.out.size (.cells #[.slice none 0 0, .slice none 0 0] 25))
     refine hK _ _ (HSc.out _ HY.out) ?_
     clear hK K hHeld
     have hHeld := HSc.out _ HY.out
     try simp only [Act.put, sA, sZ, sS]
     have Hz := Lib.hid (show CB (U2.alloc (.cells #[.slice none 0 0, .slice none 0 0] 25)) U2.heap.size none 0 0 none 0 0 from alloc_at rfl)
     have Hgz := Lib.hid (show V.heap.size ≤ U2.heap.size from HU2.out.size)
     have HC8'' := Lib.hid (HC8'.out.below (bas U2 (.cells #[.slice none 0 0, .slice none 0 0] 25)))
     replace HC9 := Lib.hid (HC9.out.below (bas U2 (.cells #[.slice none 0 0, .slice none 0 0] 25)))
     replace HB9 := Lib.hid (IsG.below keepsLit HB9.out (bas U2 (.cells #[.slice none 0 0, .slice none 0 0] 25)))
     clear HC8'
     have HC8' := HC8''
     clear HC8''
     generalize U2.heap.size = gz at *
     generalize U2.alloc (.cells #[.slice none 0 0, .slice none 0 0] 25) = Y at *
     refine stepH 11 hHeld ?_
     refine oneH 12 (fun K hK => ?_)
     obtain ⟨x0, x1, xl⟩ := open2 Hz.out
     have f0 := frozen_of Hz.out 0
     have f1 := frozen_of Hz.out 1
     go_simp
     obtain ⟨sa, sb⟩ := Hz.out.store A9 n9 c9 B9 m9 d9
     have HF := Lib.hid (HY.out.trans (sb.bel.mono Hgz.out))
     have hfin := And.intro (isC_kq HC8'.out sb Hz.out) (And.intro sa (And.intro (isC_kq HC9.out sb Hz.out) (isLs_kq HB9.out sb Hz.out)))
     have Hfin := Lib.hid hfin
     clear sa sb hfin
     refine hK _ _ (HSc.out _ HF.out) ?_
     clear hK K hHeld
     have hHeld := HSc.out _ HF.out
     try simp only [Act.put, sA, sZ, sS]
     refine wpAnyH_done (by kernel_rfl) ?_ _
     clear x0 x1 xl f0 f1 hHeld
     go_wp2_with fail
     go_meet
     exact ⟨A8, n8, c8, gz, A9, n9, c9, B9, m9, d9, rfl, rfl, Hfin.out.1, Hfin.out.2.1, Hfin.out.2.2.1, Hfin.out.2.2.2, HF.out⟩
    ·skip
     go_simp
     have HY0 := Lib.hid (HU1.out.alloc HU1.out.size (.cells #[.slice none 0 0, .slice none 0 0] 25))
     refine hK _ _ (HSc.out _ HY0.out) ?_
     clear hK K hHeld
     have hHeld := HSc.out _ HY0.out
     try simp only [Act.put, sA, sZ, sS]
     have Hz := Lib.hid (show CB (U1.alloc (.cells #[.slice none 0 0, .slice none 0 0] 25)) U1.heap.size none 0 0 none 0 0 from alloc_at rfl)
     have Hgz := Lib.hid (show V.heap.size ≤ U1.heap.size from HU1.out.size)
     have HC8a := Lib.hid (HC8.out.below (bas U1 (.cells #[.slice none 0 0, .slice none 0 0] 25)))
     clear HC8
     have HC8 := HC8a
     clear HC8a
     generalize U1.heap.size = gz at *
     generalize U1.alloc (.cells #[.slice none 0 0, .slice none 0 0] 25) = Y at *
     refine oneH 9 (fun K hK => ?_)
     go_simp
     go_at_call 26
     refine (Hmoved.out _ HY0.out).mono ?_
     rintro e9 U2 ⟨A9, n9, c9, B9, m9, d9, rfl, hC9, hB9, hb2⟩
     have HU2 := Lib.hid (HY0.out.trans (hb2.mono HY0.out.size))
     have HC8' := Lib.hid (HC8.out.below hb2)
     have HC9 := Lib.hid hC9
     have HB9 := Lib.hid hB9
     have Hz' := Lib.hid (Hz.out.below hb2)
     clear Hz
     have Hz := Hz'
     clear Hz'
     clear hC9 hB9 hb2 HC8
     try go_simp
     refine hK _ _ (HSc.out _ HU2.out) ?_
     clear hK K hHeld
     have hHeld := HSc.out _ HU2.out
     try simp only [Act.put, sA, sZ, sS]
     have HY := HU2
     clear HU2
     generalize U2 = Y at *
     refine stepH 11 hHeld ?_
     refine oneH 12 (fun K hK => ?_)
     obtain ⟨x0, x1, xl⟩ := open2 Hz.out
     have f0 := frozen_of Hz.out 0
     have f1 := frozen_of Hz.out 1
     go_simp
     obtain ⟨sa, sb⟩ := Hz.out.store A9 n9 c9 B9 m9 d9
     have HF := Lib.hid (HY.out.trans (sb.bel.mono Hgz.out))
     have hfin := And.intro (isC_kq HC8'.out sb Hz.out) (And.intro sa (And.intro (isC_kq HC9.out sb Hz.out) (isLs_kq HB9.out sb Hz.out)))
     have Hfin := Lib.hid hfin
     clear sa sb hfin
     refine hK _ _ (HSc.out _ HF.out) ?_
     clear hK K hHeld
     have hHeld := HSc.out _ HF.out
     try simp only [Act.put, sA, sZ, sS]
     refine wpAnyH_done (by kernel_rfl) ?_ _
     clear x0 x1 xl f0 f1 hHeld
     go_wp2_with fail
     go_meet
     exact ⟨A8, n8, c8, gz, A9, n9, c9, B9, m9, d9, rfl, rfl, Hfin.out.1, Hfin.out.2.1, Hfin.out.2.2.1, Hfin.out.2.2.2, HF.out⟩
   ·skip
    go_simp
    have HY0 := Lib.hid (HW.out.alloc HW.out.size (.cells #[.slice none 0 0, .slice none 0 0] 25))
    refine hK _ _ (HSc.out _ HY0.out) ?_
    clear hK K hHeld
    have hHeld := HSc.out _ HY0.out
    try simp only [Act.put, sA, sZ, sS]
    have Hz := Lib.hid (show CB (W0.alloc (.cells #[.slice none 0 0, .slice none 0 0] 25)) W0.heap.size none 0 0 none 0 0 from alloc_at rfl)
    have Hgz := Lib.hid (show V.heap.size ≤ W0.heap.size from HW.out.size)
    skip
    generalize W0.heap.size = gz at *
    generalize W0.alloc (.cells #[.slice none 0 0, .slice none 0 0] 25) = Y at *
    refine oneH 4 (fun K hK => ?_)
    go_simp
    go_at_call 33
    refine (Hshift.out _ HY0.out).mono ?_
    rintro e8 U1 ⟨A8, n8, c8, rfl, hC8, hb1⟩
    have HU1 := Lib.hid (HY0.out.trans (hb1.mono HY0.out.size))
    have HC8 := Lib.hid hC8
    have Hz' := Lib.hid (Hz.out.below hb1)
    clear Hz
    have Hz := Hz'
    clear Hz'
    clear hC8 hb1
    try go_simp
    refine hK _ _ (HSc.out _ HU1.out) ?_
    clear hK K hHeld
    have hHeld := HSc.out _ HU1.out
    try simp only [Act.put, sA, sZ, sS]
    refine oneH 9 (fun K hK => ?_)
    go_simp
    go_at_call 26
    refine (Hmoved.out _ HU1.out).mono ?_
    rintro e9 U2 ⟨A9, n9, c9, B9, m9, d9, rfl, hC9, hB9, hb2⟩
    have HU2 := Lib.hid (HU1.out.trans (hb2.mono HU1.out.size))
    have HC8' := Lib.hid (HC8.out.below hb2)
    have HC9 := Lib.hid hC9
    have HB9 := Lib.hid hB9
    have Hz' := Lib.hid (Hz.out.below hb2)
    clear Hz
    have Hz := Hz'
    clear Hz'
    clear hC9 hB9 hb2 HC8
    try go_simp
    refine hK _ _ (HSc.out _ HU2.out) ?_
    clear hK K hHeld
    have hHeld := HSc.out _ HU2.out
    try simp only [Act.put, sA, sZ, sS]
    have HY := HU2
    clear HU2
    generalize U2 = Y at *
    refine stepH 11 hHeld ?_
    refine oneH 12 (fun K hK => ?_)
    obtain ⟨x0, x1, xl⟩ := open2 Hz.out
    have f0 := frozen_of Hz.out 0
    have f1 := frozen_of Hz.out 1
    go_simp
    obtain ⟨sa, sb⟩ := Hz.out.store A9 n9 c9 B9 m9 d9
    have HF := Lib.hid (HY.out.trans (sb.bel.mono Hgz.out))
    have hfin := And.intro (isC_kq HC8'.out sb Hz.out) (And.intro sa (And.intro (isC_kq HC9.out sb Hz.out) (isLs_kq HB9.out sb Hz.out)))
    have Hfin := Lib.hid hfin
    clear sa sb hfin
    refine hK _ _ (HSc.out _ HF.out) ?_
    clear hK K hHeld
    have hHeld := HSc.out _ HF.out
    try simp only [Act.put, sA, sZ, sS]
    refine wpAnyH_done (by kernel_rfl) ?_ _
    clear x0 x1 xl f0 f1 hHeld
    go_wp2_with fail
    go_meet
    exact ⟨A8, n8, c8, gz, A9, n9, c9, B9, m9, d9, rfl, rfl, Hfin.out.1, Hfin.out.2.1, Hfin.out.2.2.1, Hfin.out.2.2.2, HF.out⟩
 case rest =>
  obtain ⟨A8, n8, c8, gz, A9, n9, c9, B9, m9, d9, rfl, rfl, hC8, hz, hA9, hB9, hbn⟩ := hcut
  obtain ⟨hbV, hK1V, hC4V, hA5V, hB5V⟩ := Hall.out
  have hbX := hbV.trans (hbn.mono hbV.size)
  have hr1 := res11 (room := 4096) wc Hnc.out (hC4V.below hbn) (hA5V.below hbn) (IsG.below keepsLit hB5V hbn) Hok1.out.1 Hok1.out.2 (i64_near (by omega) (by omega)) (Hdt.out.below hbX)
  have hr2 := fun X (hb : Below wc.heap.size wc X) => res11 (room := 4096) X Hmv.out (hC8.below hb) (hA9.below hb) (IsG.below keepsLit hB9 hb) Hok2.out.1 Hok2.out.2 (i64_near (by omega) (by omega)) (Hdt.out.below (hbX.trans (hb.mono hbX.size)))
  rw [Hlaw.out] at hr2
  have hshort : ∀ R', resZ (Tm.f s us) cq 4096 = .inl R' → R'.1.length ≤ 1000 ∧ ∀ x ∈ R'.2, x.2.length ≤ 1000 := fun R' hq => Hsh.out R' (HCeq.out.symm.trans hq)
  have hK1 := hK1V.below hbn
  have Hr1 := Lib.hid hr1
  have Hz := Lib.hid hz
  clear hr1 hC8 hA9 hB9 hC4V hA5V hB5V hK1V hbV hbn hz Hall HSc Hshift Hmoved Hnum1 Hnum2 HS Hnc Hns Hmv Hms Hlaw HCeq Hsh Hok1 Hok2 Hq1 Hn8 Hatom Hfew hn4
  generalize resZ (Tm.f s us) cq 4096 = o at *
  have Hr2 := Lib.hid hr2
  clear hr2
  obtain ⟨z0, z1, zl⟩ := open2 hK1
  cases o with
  | inl R2 =>
   obtain ⟨s1, s2⟩ := hshort R2 rfl
   have S1 := Lib.hid s1
   have S2 := Lib.hid s2
   clear hshort s1 s2
   go_wp2_with fail
   refine Hr1.out.mono ?_
   rintro e3 X3 ⟨T3, n3, c3, L3, m3, d3, rfl, hT3, hL3, hb3⟩
   have HT3 := Lib.hid hT3
   have HL3 := Lib.hid hL3
   have hbX3 := hbX.trans (hb3.mono hbX.size)
   have Hr2' := Lib.hid (Hr2.out _ hb3)
   obtain ⟨x0, x1, xl⟩ := open2 (Hz.out.below hb3)
   clear hT3 hL3 hb3 z0 z1 zl hK1 hbX Hr1 Hr2
   go_wp2_with fail
   refine Hr2'.out.mono ?_
   rintro e4 X4 ⟨T4, n4', c4', L4, m4, d4, rfl, hT4, hL4, hb4⟩
   obtain rfl : n4' = n3 := by rw [← hT4.len, ← HT3.out.len]
   obtain rfl : m4 = m3 := by rw [← hL4.len, ← HL3.out.len]
   have hn4 : n4' ≤ 1000 := by have := hT4.len; have := S1.out; omega
   have HsT := Lib.hid (rSame_v (HT3.out.below hb4) hT4 hn4)
   have Hk := Lib.hid (And.intro (IsG.below keepsLit HL3.out hb4) hL4)
   have hbX4 := hbX3.trans (hb4.mono hbX3.size)
   clear hT4 hL4 HT3 HL3 hb4 hbX3 x0 x1 xl Hz Hr2'
   go_wp2_with fail
   refine HsT.out.mono ?_
   rintro e5 X5 ⟨rfl, hb5⟩
   obtain ⟨hLY, hBY⟩ := Hk.out
   have hls := rLits_v (IsG.below keepsLit hLY hb5) (IsG.below keepsLit hBY hb5) S2.out
   have Hls := Lib.hid hls
   have hbX5 := hbX4.trans (hb5.mono hbX4.size)
   clear hls hLY hBY hb5 hbX4 Hk HsT hn4
   go_wp2_with fail
   refine Hls.out.mono ?_
   rintro e6 X6 ⟨rfl, hb6⟩
   have hbX6 := hbX5.trans (hb6.mono hbX5.size)
   clear hb6 hbX5 Hls
   go_wp2
   go_ret
   exact ⟨rfl, hbX6⟩
  | inr x3 =>
   clear hshort
   go_wp2_with fail
   refine Hr1.out.mono ?_
   rintro e3 X3 ⟨rfl, hb3⟩
   have hbX3 := hbX.trans (hb3.mono hbX.size)
   have Hr2' := Lib.hid (Hr2.out _ hb3)
   obtain ⟨x0, x1, xl⟩ := open2 (Hz.out.below hb3)
   clear hb3 z0 z1 zl hK1 hbX Hr1 Hr2
   go_wp2_with fail
   refine Hr2'.out.mono ?_
   rintro e4 X4 ⟨rfl, hb4⟩
   have hbX4 := hbX3.trans (hb4.mono hbX3.size)
   have HsT := Lib.hid (rSame_v (w := X4) (A := none) (B := none) (n := 0) (c := 0) (c' := 0) (IsC.nil0 _) (IsC.nil0 _) (by omega))
   have Hls := Lib.hid (fun X => rLits_v (w := X) (B := none) (B' := none) (m := 0) (d := 0) (d' := 0) (IsG.nil (by simp [maxLen])) (IsG.nil (by simp [maxLen])) (by simp))
   clear x0 x1 xl hb4 hbX3 Hz Hr2'
   go_wp2_with fail
   refine HsT.out.mono ?_
   rintro e5 X5 ⟨rfl, hb5⟩
   have hbX5 := hbX4.trans (hb5.mono hbX4.size)
   clear hb5 hbX4
   go_wp2_with fail
   refine (Hls.out _).mono ?_
   rintro e6 X6 ⟨rfl, hb6⟩
   have hbX6 := hbX5.trans (hb6.mono hbX5.size)
   clear hb6 hbX5
   go_wp2
   go_ret
   exact ⟨rfl, hbX6⟩
end Go.Proofs.YtgipiplklaeplaaDoor
