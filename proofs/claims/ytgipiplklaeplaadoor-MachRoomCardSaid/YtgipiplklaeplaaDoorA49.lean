/- Texts of this proof that belong together: words of memory, plain laws, walks. -/
import Derived.Test.YtgipiplklaeplaaDoorA07
import Derived.Test.YtgipiplklaeplaaDoorA41
import Derived.Test.YtgipiplklaeplaaDoorA46
set_option linter.unusedVariables false
set_option linter.unusedSimpArgs false
namespace Go.Proofs.YtgipiplklaeplaaDoor
open Go.RowKit
def upM (r : Int) : McR → McR
  | .ok m => .ok { m with r := r }
  | .err e => .err e
def upR (r : Int) : McO → McO
  | .ok m k => .ok { m with r := r } k
  | .err e k => .err e k
  | .bad => .bad
section
variable {r : Int}
theorem fits_up {m : Mc} {n : Nat} (h : m.r ≤ r) (hf : m.fits n) : ({ m with r := r } : Mc).fits n := by
  unfold Mc.fits at hf ⊢
  simp only
  omega
theorem number_up {m : Mc} (h : m.r ≤ r) (a n : Int) : m.number a n = .err 80 ∨ ({ m with r := r } : Mc).number a n = upM r (m.number a n) := by
  unfold Mc.number
  simp only
  by_cases c1 : (sAt m.l (fol m.l a.toNat)).kind = 2 ∧ (sAt m.l (fol m.l a.toNat)).n = n
  · rw [if_pos c1, if_pos c1]; exact .inr rfl
  rw [if_neg c1, if_neg c1]
  by_cases c2 : (sAt m.l (fol m.l a.toNat)).kind ≠ 1
  · rw [if_pos c2, if_pos c2]; exact .inr rfl
  rw [if_neg c2, if_neg c2]
  by_cases c3 : m.fits 1
  · rw [if_pos c3, if_pos (fits_up h c3)]; exact .inr rfl
  · rw [if_neg c3]; exact .inl rfl
theorem fun_up {m : Mc} (h : m.r ≤ r) (a : Int) (s : ByteArray) (n : Nat) : m.fun_ a s n = .err 80 ∨ ({ m with r := r } : Mc).fun_ a s n = upM r (m.fun_ a s n) := by
  unfold Mc.fun_
  simp only
  by_cases c1 : (sAt m.l (fol m.l a.toNat)).kind = 4 ∧ (sAt m.l (fol m.l a.toNat)).name = s ∧ (sAt m.l (fol m.l a.toNat)).n = (n : Int)
  · rw [if_pos c1, if_pos c1]; exact .inr rfl
  rw [if_neg c1, if_neg c1]
  by_cases c2 : (sAt m.l (fol m.l a.toNat)).kind ≠ 1
  · rw [if_pos c2, if_pos c2]; exact .inr rfl
  rw [if_neg c2, if_neg c2]
  by_cases c3 : m.fits (n + 1)
  · rw [if_pos c3, if_pos (fits_up h c3)]; exact .inr rfl
  · rw [if_neg c3]; exact .inl rfl
theorem put_up {m : Mc} (h : m.r ≤ r) (s : ByteArray) (n : Nat) : m.put s n = .err 80 ∨ ({ m with r := r } : Mc).put s n = upM r (m.put s n) := by
  unfold Mc.put
  by_cases c3 : m.fits (n + 1)
  · rw [if_pos c3, if_pos (fits_up h c3)]; exact .inr rfl
  · rw [if_neg c3]; exact .inl rfl
theorem unify_up (m : Mc) (a b : Int) : ({ m with r := r } : Mc).unify a b = upM r (m.unify a b) := by
  unfold Mc.unify
  cases uniZ m.l m.tr a b <;> rfl
theorem step_up {m : Mc} (h : m.r ≤ r) (i : In) : stepF m i = .err 80 ∨ stepF { m with r := r } i = upM r (stepF m i) := by
  unfold stepF
  by_cases c1 : i.op = 1
  · rw [if_pos c1, if_pos c1]; exact .inr rfl
  rw [if_neg c1, if_neg c1]
  by_cases c2 : i.op = 2
  · rw [if_pos c2, if_pos c2]; exact .inr (unify_up m _ _)
  rw [if_neg c2, if_neg c2]
  by_cases c3 : i.op = 3
  · rw [if_pos c3, if_pos c3]; exact number_up h _ _
  rw [if_neg c3, if_neg c3]
  by_cases c4 : i.op = 4
  · rw [if_pos c4, if_pos c4]; exact fun_up h _ _ _
  rw [if_neg c4, if_neg c4]
  by_cases c5 : i.op = 5 ∨ i.op = 9
  · rw [if_pos c5, if_pos c5]; exact .inr rfl
  rw [if_neg c5, if_neg c5]
  by_cases c6 : i.op = 6
  · rw [if_pos c6, if_pos c6]; exact .inr (unify_up m.pass _ _)
  rw [if_neg c6, if_neg c6]
  by_cases c7 : i.op = 7
  · rw [if_pos c7, if_pos c7]; exact number_up (m := m.pass) h _ _
  rw [if_neg c7, if_neg c7]
  by_cases c8 : i.op = 8
  · rw [if_pos c8, if_pos c8]; exact put_up h _ _
  rw [if_neg c8, if_neg c8]
  by_cases c10 : i.op = 10
  · rw [if_pos c10, if_pos c10]; exact .inr rfl
  rw [if_neg c10, if_neg c10]
  by_cases c11 : i.op = 11
  · rw [if_pos c11, if_pos c11]; exact .inr rfl
  rw [if_neg c11, if_neg c11]
  by_cases c12 : i.op = 12
  · rw [if_pos c12, if_pos c12]; exact .inr rfl
  rw [if_neg c12, if_neg c12]
  exact .inr rfl
theorem foldC_err (e : Int) (k : Nat) : ∀ l : List In, l.foldl stepC (.err e k) = .err e k
  | [] => rfl
  | _ :: l => foldC_err e k l
theorem foldC_up : ∀ (l : List In) {m : Mc} (k : Nat), m.r ≤ r → (∃ j, l.foldl stepC (.ok m k) = .err 80 j) ∨ l.foldl stepC (.ok { m with r := r } k) = upR r (l.foldl stepC (.ok m k))
  | [], m, k, _ => .inr rfl
  | i :: l, m, k, h => by
    rw [List.foldl_cons, List.foldl_cons]
    have e1 : stepC (.ok m k) i = (match stepF m i with | .ok m' => .ok m' (k + 1) | .err e => .err e k) := rfl
    have e2 : stepC (.ok { m with r := r } k) i = (match stepF { m with r := r } i with | .ok m' => .ok m' (k + 1) | .err e => .err e k) := rfl
    rw [e1, e2]
    rcases step_up h i with hs | hs
    · rw [hs]
      exact .inl ⟨k, foldC_err _ _ l⟩
    · rw [hs]
      cases hm : stepF m i with
      | ok m' =>
        have := (step_len hm).2.2.2
        exact foldC_up l (k + 1) (by rw [this]; exact h)
      | err e =>
        refine .inr ?_
        show l.foldl stepC (.err e k) = upR r (l.foldl stepC (.err e k))
        rw [foldC_err]
        rfl
end
/-- what Resolve hands back with more room -/
theorem resC_up (A : Tm) (c : Cls) {x y : Int} (h1 : 1 ≤ x) (h : x ≤ y) (h2 : y ≤ 4096) : resC A c x = .inr 80 ∨ resC A c y = resC A c x := by
  have ex : newF x = x := by unfold newF; rw [if_pos (by omega)]
  have ey : newF y = y := by unfold newF; rw [if_pos (by omega)]
  unfold resC
  rw [ex, ey]
  cases hne : A.c0.beq c.head.c0 with
  | false => rw [if_pos rfl, if_pos rfl]; exact .inr rfl
  | true =>
    rw [if_neg (show ¬ (true = false) by simp), if_neg (show ¬ (true = false) by simp)]
    by_cases hfit : ((putA [] A []).1.length : Int) ≤ x
    · rw [if_pos hfit, if_pos (by omega)]
      rcases foldC_up (r := y) (compF c) (m := resM A x) 0 h with ⟨j, hj⟩ | hj
      · left
        unfold outC
        rw [hj]
      · right
        have e : outC (resM A y) (compF c) = upR y (outC (resM A x) (compF c)) := hj
        rw [e]
        cases outC (resM A x) (compF c) <;> rfl
    · rw [if_neg hfit]; exact .inl rfl
end Go.Proofs.YtgipiplklaeplaaDoor
namespace Go.Proofs.YtgipiplklaeplaaDoor
open Go.RowKit
theorem roomR {z : Int} (h : 0 ≤ z ∧ z ≤ 65535) : 1 ≤ IntKind.i64.wrap (1 + (IntKind.i64.wrap z).tmod 4096) ∧ IntKind.i64.wrap (1 + (IntKind.i64.wrap z).tmod 4096) ≤ 4096 := by
  rw [IntWalk.i64_in z (by omega), Int.tmod_eq_emod_of_nonneg h.1, IntWalk.i64_in _ (by omega)]
  omega
set_option maxRecDepth 100000 in
set_option maxHeartbeats 8000000 in
theorem machRoom_walk (A : Option Addr) (n c : Nat) (t : List C) (A1 : Option Addr) (n1 c1 : Nat) (t1 : List C) (B1 : Option Addr) (m1 e1 : Nat) (b : List (Bool × List C)) (x y : Int) (w : World)
    (h : IsC w A n c t) (h1 : IsC w A1 n1 c1 t1) (hB1 : IsLs w B1 m1 e1 b) (hx : (Lit.int .u16 x).wf = true) (hy : (Lit.int .u16 y).wf = true) (hdt : DT w) :
    Calls Tryd.prog 9 #[.slice A n c, .agg #[.slice A1 n1 c1, .slice B1 m1 e1], .agg #[.int .u16 x, .int .u16 y]] w (RetV w (.bool true)) := by
  have hatom := fun X (hb : Below w.heap.size w X) => atom11_any A n c t X (h.below hb)
  have Hdt := Lib.hid hdt
  cases ha : (decide (t.length ≤ 40) && atomB t)
  · rw [ha] at hatom
    have Hatom := Lib.hid hatom
    clear ha hatom h h1 hB1 hx hy hdt
    go_enter Tryd.func9, Tryd.ntmps9
    go_upto_region 1 with fail
    refine wp_world' (Φ := fun X => Below w.heap.size w X ∧ CB X w.heap.size A1 n1 c1 B1 m1 e1 ∧ X.heap[w.heap.size + 1]? = some (.cells #[.int .u16 x, .int .u16 y] 83 (0, 0))) ⟨(bas _ _).alloc (by simp) _, (alloc_past (by simp)).trans (alloc_at rfl), alloc_at (by simp)⟩ ?_
    rintro X ⟨hbX, hK1, hK2⟩
    obtain ⟨g2, hg2⟩ : ∃ g2, g2 = w.heap.size + 1 := ⟨_, rfl⟩
    obtain ⟨g1, hg1⟩ : ∃ g1, g1 = w.heap.size := ⟨_, rfl⟩
    rw [← hg2] at hK2
    rw [← hg1] at hK1
    try rw [← hg2]
    try rw [← hg1]
    have Hgw := Lib.hid (show w.heap.size ≤ g1 ∧ g1 < g2 by omega)
    clear hg1 hg2
    obtain ⟨z0, z1, zl⟩ := open2 hK1
    obtain ⟨u0, u1, ul⟩ := open2 hK2
    go_wp2_with fail
    refine (head11_any _ (Hdt.out.below hbX)).mono ?_
    rintro e0 X0 ⟨rfl, hbn⟩
    replace hK2 := (hbn.block _ (block_lt hK2)).trans hK2
    replace hK1 := hK1.below hbn
    replace hbX := hbX.trans (hbn.mono hbX.size)
    clear hbn z0 z1 zl u0 u1 ul
    obtain ⟨z0, z1, zl⟩ := open2 hK1
    obtain ⟨u0, u1, ul⟩ := open2 hK2
    go_wp2_with fail
    refine (Hatom.out _ hbX).mono ?_
    rintro e3 X1 ⟨rfl, hbn⟩
    replace hK2 := (hbn.block _ (block_lt hK2)).trans hK2
    replace hK1 := hK1.below hbn
    replace hbX := hbX.trans (hbn.mono hbX.size)
    clear hbn z0 z1 zl u0 u1 ul
    obtain ⟨z0, z1, zl⟩ := open2 hK1
    obtain ⟨u0, u1, ul⟩ := open2 hK2
    go_wp2
    go_ret
    exact ⟨rfl, hbX⟩
  rw [ha] at hatom
  have Hatom := Lib.hid hatom
  have hfew := fun X (hb : Below w.heap.size w X) => few11 X (h1.below hb) (IsG.below keepsLit hB1 hb)
  cases hf : fewB (t1, b) 40
  · rw [hf] at hfew
    have Hfew := Lib.hid hfew
    clear ha hf hatom hfew h h1 hB1 hx hy hdt
    go_enter Tryd.func9, Tryd.ntmps9
    go_upto_region 1 with fail
    refine wp_world' (Φ := fun X => Below w.heap.size w X ∧ CB X w.heap.size A1 n1 c1 B1 m1 e1 ∧ X.heap[w.heap.size + 1]? = some (.cells #[.int .u16 x, .int .u16 y] 83 (0, 0))) ⟨(bas _ _).alloc (by simp) _, (alloc_past (by simp)).trans (alloc_at rfl), alloc_at (by simp)⟩ ?_
    rintro X ⟨hbX, hK1, hK2⟩
    obtain ⟨g2, hg2⟩ : ∃ g2, g2 = w.heap.size + 1 := ⟨_, rfl⟩
    obtain ⟨g1, hg1⟩ : ∃ g1, g1 = w.heap.size := ⟨_, rfl⟩
    rw [← hg2] at hK2
    rw [← hg1] at hK1
    try rw [← hg2]
    try rw [← hg1]
    have Hgw := Lib.hid (show w.heap.size ≤ g1 ∧ g1 < g2 by omega)
    clear hg1 hg2
    obtain ⟨z0, z1, zl⟩ := open2 hK1
    obtain ⟨u0, u1, ul⟩ := open2 hK2
    go_wp2_with fail
    refine (head11_any _ (Hdt.out.below hbX)).mono ?_
    rintro e0 X0 ⟨rfl, hbn⟩
    replace hK2 := (hbn.block _ (block_lt hK2)).trans hK2
    replace hK1 := hK1.below hbn
    replace hbX := hbX.trans (hbn.mono hbX.size)
    clear hbn z0 z1 zl u0 u1 ul
    obtain ⟨z0, z1, zl⟩ := open2 hK1
    obtain ⟨u0, u1, ul⟩ := open2 hK2
    go_wp2_with fail
    refine (Hatom.out _ hbX).mono ?_
    rintro e3 X1 ⟨rfl, hbn⟩
    replace hK2 := (hbn.block _ (block_lt hK2)).trans hK2
    replace hK1 := hK1.below hbn
    replace hbX := hbX.trans (hbn.mono hbX.size)
    clear hbn z0 z1 zl u0 u1 ul
    obtain ⟨z0, z1, zl⟩ := open2 hK1
    obtain ⟨u0, u1, ul⟩ := open2 hK2
    go_wp2_with fail
    refine (Hfew.out _ hbX).mono ?_
    rintro e4 X2 ⟨rfl, hbn⟩
    replace hK2 := (hbn.block _ (block_lt hK2)).trans hK2
    replace hK1 := hK1.below hbn
    replace hbX := hbX.trans (hbn.mono hbX.size)
    clear hbn z0 z1 zl u0 u1 ul
    obtain ⟨z0, z1, zl⟩ := open2 hK1
    obtain ⟨u0, u1, ul⟩ := open2 hK2
    go_wp2
    go_ret
    exact ⟨rfl, hbX⟩
  rw [hf] at hfew
  have Hfew := Lib.hid hfew
  obtain ⟨cl, hcl, hsm⟩ := fewB_cls hf
  obtain ⟨s, us, hfl, hok, hsz⟩ := atom_tm ha
  have hres := fun X room (hb : Below w.heap.size w X) (hr : i64 room) => res11 (room := room) X hcl (by rw [hfl]; exact h.below hb) (h1.below hb) (IsG.below keepsLit hB1 hb) hok hsz hr (hdt.below hb)
  have hup := fun (p q : Int) (e1 : 1 ≤ p) (e2 : p ≤ q) (e3 : q ≤ 4096) => resC_up (Tm.f s us) cl e1 e2 e3
  have heq := fun (p : Int) => resZ_C hcl hok (show (Tm.f s us).size ≤ 200 by omega) p
  have hx2 := u16R hx
  have hy2 := u16R hy
  have Hres := Lib.hid hres
  have Hup := Lib.hid hup
  have Heq := Lib.hid heq
  clear ha hf hatom hfew h h1 hB1 hx hy hdt hres hup heq hcl hsm hfl hok hsz
  go_enter Tryd.func9, Tryd.ntmps9
  go_upto_region 1 with fail
  refine wp_world' (Φ := fun X => Below w.heap.size w X ∧ CB X w.heap.size A1 n1 c1 B1 m1 e1 ∧ X.heap[w.heap.size + 1]? = some (.cells #[.int .u16 x, .int .u16 y] 83 (0, 0))) ⟨(bas _ _).alloc (by simp) _, (alloc_past (by simp)).trans (alloc_at rfl), alloc_at (by simp)⟩ ?_
  rintro X ⟨hbX, hK1, hK2⟩
  obtain ⟨g2, hg2⟩ : ∃ g2, g2 = w.heap.size + 1 := ⟨_, rfl⟩
  obtain ⟨g1, hg1⟩ : ∃ g1, g1 = w.heap.size := ⟨_, rfl⟩
  rw [← hg2] at hK2
  rw [← hg1] at hK1
  try rw [← hg2]
  try rw [← hg1]
  have Hgw := Lib.hid (show w.heap.size ≤ g1 ∧ g1 < g2 by omega)
  clear hg1 hg2
  obtain ⟨z0, z1, zl⟩ := open2 hK1
  obtain ⟨u0, u1, ul⟩ := open2 hK2
  go_wp2_with fail
  refine (head11_any _ (Hdt.out.below hbX)).mono ?_
  rintro e0 X0 ⟨rfl, hbn⟩
  replace hK2 := (hbn.block _ (block_lt hK2)).trans hK2
  replace hK1 := hK1.below hbn
  replace hbX := hbX.trans (hbn.mono hbX.size)
  clear hbn z0 z1 zl u0 u1 ul
  obtain ⟨z0, z1, zl⟩ := open2 hK1
  obtain ⟨u0, u1, ul⟩ := open2 hK2
  go_wp2_with fail
  refine (Hatom.out _ hbX).mono ?_
  rintro e3 X1 ⟨rfl, hbn⟩
  replace hK2 := (hbn.block _ (block_lt hK2)).trans hK2
  replace hK1 := hK1.below hbn
  replace hbX := hbX.trans (hbn.mono hbX.size)
  clear hbn z0 z1 zl u0 u1 ul
  obtain ⟨z0, z1, zl⟩ := open2 hK1
  obtain ⟨u0, u1, ul⟩ := open2 hK2
  go_wp2_with fail
  refine (Hfew.out _ hbX).mono ?_
  rintro e4 X2 ⟨rfl, hbn⟩
  replace hK2 := (hbn.block _ (block_lt hK2)).trans hK2
  replace hK1 := hK1.below hbn
  replace hbX := hbX.trans (hbn.mono hbX.size)
  clear hbn z0 z1 zl u0 u1 ul
  obtain ⟨z0, z1, zl⟩ := open2 hK1
  obtain ⟨u0, u1, ul⟩ := open2 hK2
  go_upto_region 4 with fail
  have hS := Lib.hid (show ∀ w', Below X2.heap.size X2 w' → w'.cell? ⟨g2, 0, none⟩ = some (.int .u16 x) ∧ w'.cell? ⟨g2, 1, none⟩ = some (.int .u16 y) from fun w' hb => ⟨(hb.cell (p := ⟨g2, 0, none⟩) ul).trans u0, (hb.cell (p := ⟨g2, 1, none⟩) ul).trans u1⟩)
  refine wp_region_held_drew (S := fun w' => w'.cell? ⟨g2, 0, none⟩ = some (.int .u16 x) ∧ w'.cell? ⟨g2, 1, none⟩ = some (.int .u16 y)) (by kernel_rfl) ?gs4 ?gr4
  case gs4 => exact hS.out _ (Below.refl _ _).drew
  case gr4 =>
    intro hHeld
    refine stepH 0 hHeld ?_
    refine stepH 1 hHeld ?_
    refine stepH 2 hHeld ?_
    refine stepH 3 hHeld ?_
    refine stepH 4 hHeld ?_
    refine stepH 5 hHeld ?_
    refine stepH 6 hHeld ?_
    refine stepH 7 hHeld ?_
    refine stepH 8 hHeld ?_
    refine stepH 9 hHeld ?_
    refine stepH 10 hHeld ?_
    refine stepH 11 hHeld ?_
    refine stepH 12 hHeld ?_
    refine stepH 13 hHeld ?_
    refine stepH 14 hHeld ?_
    refine stepH 15 hHeld ?_
    refine stepH 16 hHeld ?_
    refine stepH 17 hHeld ?_
    refine wpAnyH_done (by kernel_rfl) ?_ _
    go_upto_region 5 with fail
    have hlo := roomR (z := if y < x then y else x) (by split <;> omega)
    have hhi := roomR (z := if x < y then y else x) (by split <;> omega)
    generalize IntKind.i64.wrap (1 + (IntKind.i64.wrap (if y < x then y else x)).tmod 4096) = lo at *
    generalize IntKind.i64.wrap (1 + (IntKind.i64.wrap (if x < y then y else x)).tmod 4096) = hi at *
    generalize (if y < x then y else x) = zz1 at *
    generalize (if x < y then y else x) = zz2 at *
    have HbD := Lib.hid (show Below w.heap.size w X2.drew from hbX.drew)
    have HK := Lib.hid (hK1.below (Below.refl _ _).drew)
    clear hS hHeld u0 u1 ul hK2 z0 z1 zl hK1 hbX hx2 hy2
    generalize X2.drew = V at *
    obtain ⟨z0, z1, zl⟩ := open2 HK.out
    rcases Int.lt_trichotomy hi lo with h1 | h1 | h1
    · have hp1 := hhi.1
      have hq1 := hlo.2
      have hpq : hi ≤ lo := by omega
      have h2 : ¬ lo < hi := by omega
      clear hlo hhi
      obtain ⟨p, rfl⟩ : ∃ p, p = hi := ⟨_, rfl⟩
      obtain ⟨q, rfl⟩ : ∃ q, q = lo := ⟨_, rfl⟩
      have hup2 := Hup.out p q hp1 hpq hq1
      have hr1 := Hres.out V p HbD.out (i64_near (by omega) (by omega))
      rw [Heq.out p] at hr1
      have hr2 := fun X hb => Hres.out X q hb (i64_near (by omega) (by omega))
      rw [Heq.out q] at hr2
      have hsh := fun R (h : resC (Tm.f s us) cl p = .inl R) => resC_short h
      clear hp1 hpq hq1 Hres Hup Heq
      rcases hup2 with h80 | hsame
      · rw [h80] at hr1
        have Hr1 := Lib.hid hr1
        have Hr2 := Lib.hid hr2
        clear h80 hr1 hr2 hsh
        go_wp2_with fail
        refine Hr1.out.mono ?_
        rintro e3 X3 ⟨rfl, hb3⟩
        have hbX3 := HbD.out.trans (hb3.mono HbD.out.size)
        have hK3 := HK.out.below hb3
        clear z0 z1 zl hb3
        obtain ⟨z0, z1, zl⟩ := open2 hK3
        go_wp2_with fail
        refine (Hr2.out _ hbX3).mono ?_
        intro e4 X4 hh
        generalize resC (Tm.f s us) cl q = o at hh
        cases o with
        | inl R =>
          obtain ⟨T4, n4, c4, L4, m4, d4, rfl, _, _, hb4⟩ := hh
          have hbX4 := hbX3.trans (hb4.mono hbX3.size)
          clear z0 z1 zl hb4 hbX3 hK3
          go_wp2
          go_ret
          exact ⟨rfl, hbX4⟩
        | inr x4 =>
          obtain ⟨rfl, hb4⟩ := hh
          have hbX4 := hbX3.trans (hb4.mono hbX3.size)
          clear z0 z1 zl hb4 hbX3 hK3
          go_wp2
          go_ret
          exact ⟨rfl, hbX4⟩
      · rw [hsame] at hr2
        have Hr2 := Lib.hid hr2
        clear hr2 hsame
        generalize resC (Tm.f s us) cl p = o at *
        cases o with
        | inl R =>
          obtain ⟨s1, s2⟩ := hsh R rfl
          have S1 := Lib.hid s1
          have S2 := Lib.hid s2
          have Hr1 := Lib.hid hr1
          clear hr1 hsh s1 s2
          go_wp2_with fail
          refine Hr1.out.mono ?_
          rintro e3 X3 ⟨T3, n3, c3, L3, m3, d3, rfl, hT3, hL3, hb3⟩
          have HT3 := Lib.hid hT3
          have HL3 := Lib.hid hL3
          clear hT3 hL3
          have hbX3 := HbD.out.trans (hb3.mono HbD.out.size)
          have hK3 := HK.out.below hb3
          clear z0 z1 zl hb3
          obtain ⟨z0, z1, zl⟩ := open2 hK3
          go_wp2_with fail
          refine (Hr2.out _ hbX3).mono ?_
          rintro e4 X4 ⟨T4, n4, c4, L4, m4, d4, rfl, hT4, hL4, hb4⟩
          obtain rfl : n4 = n3 := by rw [← hT4.len, ← HT3.out.len]
          obtain rfl : m4 = m3 := by rw [← hL4.len, ← HL3.out.len]
          have hn4 : n4 ≤ 1000 := by have := hT4.len; have := S1.out; omega
          have HsT := Lib.hid (rSame_v (HT3.out.below hb4) hT4 hn4)
          have Hk := Lib.hid (And.intro (IsG.below keepsLit HL3.out hb4) hL4)
          have hbX4 := hbX3.trans (hb4.mono hbX3.size)
          clear hT4 hL4 HT3 HL3 hb4 hbX3 z0 z1 zl hK3
          go_wp2_with fail
          refine HsT.out.mono ?_
          rintro e5 X5 ⟨rfl, hb5⟩
          obtain ⟨hLY, hBY⟩ := Hk.out
          have hls := rLits_v (IsG.below keepsLit hLY hb5) (IsG.below keepsLit hBY hb5) S2.out
          have Hls := Lib.hid hls
          have hbX5 := hbX4.trans (hb5.mono hbX4.size)
          clear hls hLY hBY hb5 hbX4 Hk HsT hn4
          go_wp2_with fail
          refine Hls.out.mono ?_
          rintro e6 X6 ⟨rfl, hb6⟩
          have hbX6 := hbX5.trans (hb6.mono hbX5.size)
          clear hb6 hbX5 Hls
          go_wp2
          go_ret
          exact ⟨rfl, hbX6⟩
        | inr x3 =>
          have Hr1 := Lib.hid hr1
          clear hr1 hsh
          by_cases hx3 : x3 = 80
          · subst hx3
            go_wp2_with fail
            refine Hr1.out.mono ?_
            rintro e3 X3 ⟨rfl, hb3⟩
            have hbX3 := HbD.out.trans (hb3.mono HbD.out.size)
            have hK3 := HK.out.below hb3
            clear z0 z1 zl hb3
            obtain ⟨z0, z1, zl⟩ := open2 hK3
            go_wp2_with fail
            refine (Hr2.out _ hbX3).mono ?_
            rintro e4 X4 ⟨rfl, hb4⟩
            have hbX4 := hbX3.trans (hb4.mono hbX3.size)
            clear z0 z1 zl hb4 hbX3 hK3
            go_wp2
            go_ret
            exact ⟨rfl, hbX4⟩
          · have hxb : (x3 == 80) = false := by simp [hx3]
            clear hx3
            go_wp2_with fail
            refine Hr1.out.mono ?_
            rintro e3 X3 ⟨rfl, hb3⟩
            have hbX3 := HbD.out.trans (hb3.mono HbD.out.size)
            have hK3 := HK.out.below hb3
            clear z0 z1 zl hb3
            obtain ⟨z0, z1, zl⟩ := open2 hK3
            go_wp2_with fail
            refine (Hr2.out _ hbX3).mono ?_
            rintro e4 X4 ⟨rfl, hb4⟩
            have hbX4 := hbX3.trans (hb4.mono hbX3.size)
            have HsT := Lib.hid (rSame_v (w := X4) (A := none) (B := none) (n := 0) (c := 0) (c' := 0) (IsC.nil0 _) (IsC.nil0 _) (by omega))
            have Hls := Lib.hid (fun X => rLits_v (w := X) (B := none) (B' := none) (m := 0) (d := 0) (d' := 0) (IsG.nil (by simp [maxLen])) (IsG.nil (by simp [maxLen])) (by simp))
            clear z0 z1 zl hb4 hbX3 hK3
            go_wp2_with fail
            refine HsT.out.mono ?_
            rintro e5 X5 ⟨rfl, hb5⟩
            have hbX5 := hbX4.trans (hb5.mono hbX4.size)
            clear hb5 hbX4
            go_wp2_with fail
            refine (Hls.out _).mono ?_
            rintro e6 X6 ⟨rfl, hb6⟩
            have hbX6 := hbX5.trans (hb6.mono hbX5.size)
            clear hb6 hbX5
            go_wp2
            go_ret
            exact ⟨rfl, hbX6⟩
    · have hp1 := hlo.1
      have hq1 := hlo.2
      have h2 : ¬ hi < lo := by omega
      have h3 : ¬ lo < hi := by omega
      clear hlo hhi h1
      obtain ⟨p, rfl⟩ : ∃ p, p = lo := ⟨_, rfl⟩
      have hpq : p ≤ p := Int.le_refl _
      have hup2 := Hup.out p p hp1 hpq hq1
      have hr1 := Hres.out V p HbD.out (i64_near (by omega) (by omega))
      rw [Heq.out p] at hr1
      have hr2 := fun X hb => Hres.out X p hb (i64_near (by omega) (by omega))
      rw [Heq.out p] at hr2
      have hsh := fun R (h : resC (Tm.f s us) cl p = .inl R) => resC_short h
      clear hp1 hpq hq1 Hres Hup Heq
      rcases hup2 with h80 | hsame
      · rw [h80] at hr1
        have Hr1 := Lib.hid hr1
        have Hr2 := Lib.hid hr2
        clear h80 hr1 hr2 hsh
        go_wp2_with fail
        refine Hr1.out.mono ?_
        rintro e3 X3 ⟨rfl, hb3⟩
        have hbX3 := HbD.out.trans (hb3.mono HbD.out.size)
        have hK3 := HK.out.below hb3
        clear z0 z1 zl hb3
        obtain ⟨z0, z1, zl⟩ := open2 hK3
        go_wp2_with fail
        refine (Hr2.out _ hbX3).mono ?_
        intro e4 X4 hh
        generalize resC (Tm.f s us) cl p = o at hh
        cases o with
        | inl R =>
          obtain ⟨T4, n4, c4, L4, m4, d4, rfl, _, _, hb4⟩ := hh
          have hbX4 := hbX3.trans (hb4.mono hbX3.size)
          clear z0 z1 zl hb4 hbX3 hK3
          go_wp2
          go_ret
          exact ⟨rfl, hbX4⟩
        | inr x4 =>
          obtain ⟨rfl, hb4⟩ := hh
          have hbX4 := hbX3.trans (hb4.mono hbX3.size)
          clear z0 z1 zl hb4 hbX3 hK3
          go_wp2
          go_ret
          exact ⟨rfl, hbX4⟩
      · rw [hsame] at hr2
        have Hr2 := Lib.hid hr2
        clear hr2 hsame
        generalize resC (Tm.f s us) cl p = o at *
        cases o with
        | inl R =>
          obtain ⟨s1, s2⟩ := hsh R rfl
          have S1 := Lib.hid s1
          have S2 := Lib.hid s2
          have Hr1 := Lib.hid hr1
          clear hr1 hsh s1 s2
          go_wp2_with fail
          refine Hr1.out.mono ?_
          rintro e3 X3 ⟨T3, n3, c3, L3, m3, d3, rfl, hT3, hL3, hb3⟩
          have HT3 := Lib.hid hT3
          have HL3 := Lib.hid hL3
          clear hT3 hL3
          have hbX3 := HbD.out.trans (hb3.mono HbD.out.size)
          have hK3 := HK.out.below hb3
          clear z0 z1 zl hb3
          obtain ⟨z0, z1, zl⟩ := open2 hK3
          go_wp2_with fail
          refine (Hr2.out _ hbX3).mono ?_
          rintro e4 X4 ⟨T4, n4, c4, L4, m4, d4, rfl, hT4, hL4, hb4⟩
          obtain rfl : n4 = n3 := by rw [← hT4.len, ← HT3.out.len]
          obtain rfl : m4 = m3 := by rw [← hL4.len, ← HL3.out.len]
          have hn4 : n4 ≤ 1000 := by have := hT4.len; have := S1.out; omega
          have HsT := Lib.hid (rSame_v (HT3.out.below hb4) hT4 hn4)
          have Hk := Lib.hid (And.intro (IsG.below keepsLit HL3.out hb4) hL4)
          have hbX4 := hbX3.trans (hb4.mono hbX3.size)
          clear hT4 hL4 HT3 HL3 hb4 hbX3 z0 z1 zl hK3
          go_wp2_with fail
          refine HsT.out.mono ?_
          rintro e5 X5 ⟨rfl, hb5⟩
          obtain ⟨hLY, hBY⟩ := Hk.out
          have hls := rLits_v (IsG.below keepsLit hLY hb5) (IsG.below keepsLit hBY hb5) S2.out
          have Hls := Lib.hid hls
          have hbX5 := hbX4.trans (hb5.mono hbX4.size)
          clear hls hLY hBY hb5 hbX4 Hk HsT hn4
          go_wp2_with fail
          refine Hls.out.mono ?_
          rintro e6 X6 ⟨rfl, hb6⟩
          have hbX6 := hbX5.trans (hb6.mono hbX5.size)
          clear hb6 hbX5 Hls
          go_wp2
          go_ret
          exact ⟨rfl, hbX6⟩
        | inr x3 =>
          have Hr1 := Lib.hid hr1
          clear hr1 hsh
          by_cases hx3 : x3 = 80
          · subst hx3
            go_wp2_with fail
            refine Hr1.out.mono ?_
            rintro e3 X3 ⟨rfl, hb3⟩
            have hbX3 := HbD.out.trans (hb3.mono HbD.out.size)
            have hK3 := HK.out.below hb3
            clear z0 z1 zl hb3
            obtain ⟨z0, z1, zl⟩ := open2 hK3
            go_wp2_with fail
            refine (Hr2.out _ hbX3).mono ?_
            rintro e4 X4 ⟨rfl, hb4⟩
            have hbX4 := hbX3.trans (hb4.mono hbX3.size)
            clear z0 z1 zl hb4 hbX3 hK3
            go_wp2
            go_ret
            exact ⟨rfl, hbX4⟩
          · have hxb : (x3 == 80) = false := by simp [hx3]
            clear hx3
            go_wp2_with fail
            refine Hr1.out.mono ?_
            rintro e3 X3 ⟨rfl, hb3⟩
            have hbX3 := HbD.out.trans (hb3.mono HbD.out.size)
            have hK3 := HK.out.below hb3
            clear z0 z1 zl hb3
            obtain ⟨z0, z1, zl⟩ := open2 hK3
            go_wp2_with fail
            refine (Hr2.out _ hbX3).mono ?_
            rintro e4 X4 ⟨rfl, hb4⟩
            have hbX4 := hbX3.trans (hb4.mono hbX3.size)
            have HsT := Lib.hid (rSame_v (w := X4) (A := none) (B := none) (n := 0) (c := 0) (c' := 0) (IsC.nil0 _) (IsC.nil0 _) (by omega))
            have Hls := Lib.hid (fun X => rLits_v (w := X) (B := none) (B' := none) (m := 0) (d := 0) (d' := 0) (IsG.nil (by simp [maxLen])) (IsG.nil (by simp [maxLen])) (by simp))
            clear z0 z1 zl hb4 hbX3 hK3
            go_wp2_with fail
            refine HsT.out.mono ?_
            rintro e5 X5 ⟨rfl, hb5⟩
            have hbX5 := hbX4.trans (hb5.mono hbX4.size)
            clear hb5 hbX4
            go_wp2_with fail
            refine (Hls.out _).mono ?_
            rintro e6 X6 ⟨rfl, hb6⟩
            have hbX6 := hbX5.trans (hb6.mono hbX5.size)
            clear hb6 hbX5
            go_wp2
            go_ret
            exact ⟨rfl, hbX6⟩
    · have hp1 := hlo.1
      have hq1 := hhi.2
      have hpq : lo ≤ hi := by omega
      have h2 : ¬ hi < lo := by omega
      clear hlo hhi
      obtain ⟨p, rfl⟩ : ∃ p, p = lo := ⟨_, rfl⟩
      obtain ⟨q, rfl⟩ : ∃ q, q = hi := ⟨_, rfl⟩
      have hup2 := Hup.out p q hp1 hpq hq1
      have hr1 := Hres.out V p HbD.out (i64_near (by omega) (by omega))
      rw [Heq.out p] at hr1
      have hr2 := fun X hb => Hres.out X q hb (i64_near (by omega) (by omega))
      rw [Heq.out q] at hr2
      have hsh := fun R (h : resC (Tm.f s us) cl p = .inl R) => resC_short h
      clear hp1 hpq hq1 Hres Hup Heq
      rcases hup2 with h80 | hsame
      · rw [h80] at hr1
        have Hr1 := Lib.hid hr1
        have Hr2 := Lib.hid hr2
        clear h80 hr1 hr2 hsh
        go_wp2_with fail
        refine Hr1.out.mono ?_
        rintro e3 X3 ⟨rfl, hb3⟩
        have hbX3 := HbD.out.trans (hb3.mono HbD.out.size)
        have hK3 := HK.out.below hb3
        clear z0 z1 zl hb3
        obtain ⟨z0, z1, zl⟩ := open2 hK3
        go_wp2_with fail
        refine (Hr2.out _ hbX3).mono ?_
        intro e4 X4 hh
        generalize resC (Tm.f s us) cl q = o at hh
        cases o with
        | inl R =>
          obtain ⟨T4, n4, c4, L4, m4, d4, rfl, _, _, hb4⟩ := hh
          have hbX4 := hbX3.trans (hb4.mono hbX3.size)
          clear z0 z1 zl hb4 hbX3 hK3
          go_wp2
          go_ret
          exact ⟨rfl, hbX4⟩
        | inr x4 =>
          obtain ⟨rfl, hb4⟩ := hh
          have hbX4 := hbX3.trans (hb4.mono hbX3.size)
          clear z0 z1 zl hb4 hbX3 hK3
          go_wp2
          go_ret
          exact ⟨rfl, hbX4⟩
      · rw [hsame] at hr2
        have Hr2 := Lib.hid hr2
        clear hr2 hsame
        generalize resC (Tm.f s us) cl p = o at *
        cases o with
        | inl R =>
          obtain ⟨s1, s2⟩ := hsh R rfl
          have S1 := Lib.hid s1
          have S2 := Lib.hid s2
          have Hr1 := Lib.hid hr1
          clear hr1 hsh s1 s2
          go_wp2_with fail
          refine Hr1.out.mono ?_
          rintro e3 X3 ⟨T3, n3, c3, L3, m3, d3, rfl, hT3, hL3, hb3⟩
          have HT3 := Lib.hid hT3
          have HL3 := Lib.hid hL3
          clear hT3 hL3
          have hbX3 := HbD.out.trans (hb3.mono HbD.out.size)
          have hK3 := HK.out.below hb3
          clear z0 z1 zl hb3
          obtain ⟨z0, z1, zl⟩ := open2 hK3
          go_wp2_with fail
          refine (Hr2.out _ hbX3).mono ?_
          rintro e4 X4 ⟨T4, n4, c4, L4, m4, d4, rfl, hT4, hL4, hb4⟩
          obtain rfl : n4 = n3 := by rw [← hT4.len, ← HT3.out.len]
          obtain rfl : m4 = m3 := by rw [← hL4.len, ← HL3.out.len]
          have hn4 : n4 ≤ 1000 := by have := hT4.len; have := S1.out; omega
          have HsT := Lib.hid (rSame_v (HT3.out.below hb4) hT4 hn4)
          have Hk := Lib.hid (And.intro (IsG.below keepsLit HL3.out hb4) hL4)
          have hbX4 := hbX3.trans (hb4.mono hbX3.size)
          clear hT4 hL4 HT3 HL3 hb4 hbX3 z0 z1 zl hK3
          go_wp2_with fail
          refine HsT.out.mono ?_
          rintro e5 X5 ⟨rfl, hb5⟩
          obtain ⟨hLY, hBY⟩ := Hk.out
          have hls := rLits_v (IsG.below keepsLit hLY hb5) (IsG.below keepsLit hBY hb5) S2.out
          have Hls := Lib.hid hls
          have hbX5 := hbX4.trans (hb5.mono hbX4.size)
          clear hls hLY hBY hb5 hbX4 Hk HsT hn4
          go_wp2_with fail
          refine Hls.out.mono ?_
          rintro e6 X6 ⟨rfl, hb6⟩
          have hbX6 := hbX5.trans (hb6.mono hbX5.size)
          clear hb6 hbX5 Hls
          go_wp2
          go_ret
          exact ⟨rfl, hbX6⟩
        | inr x3 =>
          have Hr1 := Lib.hid hr1
          clear hr1 hsh
          by_cases hx3 : x3 = 80
          · subst hx3
            go_wp2_with fail
            refine Hr1.out.mono ?_
            rintro e3 X3 ⟨rfl, hb3⟩
            have hbX3 := HbD.out.trans (hb3.mono HbD.out.size)
            have hK3 := HK.out.below hb3
            clear z0 z1 zl hb3
            obtain ⟨z0, z1, zl⟩ := open2 hK3
            go_wp2_with fail
            refine (Hr2.out _ hbX3).mono ?_
            rintro e4 X4 ⟨rfl, hb4⟩
            have hbX4 := hbX3.trans (hb4.mono hbX3.size)
            clear z0 z1 zl hb4 hbX3 hK3
            go_wp2
            go_ret
            exact ⟨rfl, hbX4⟩
          · have hxb : (x3 == 80) = false := by simp [hx3]
            clear hx3
            go_wp2_with fail
            refine Hr1.out.mono ?_
            rintro e3 X3 ⟨rfl, hb3⟩
            have hbX3 := HbD.out.trans (hb3.mono HbD.out.size)
            have hK3 := HK.out.below hb3
            clear z0 z1 zl hb3
            obtain ⟨z0, z1, zl⟩ := open2 hK3
            go_wp2_with fail
            refine (Hr2.out _ hbX3).mono ?_
            rintro e4 X4 ⟨rfl, hb4⟩
            have hbX4 := hbX3.trans (hb4.mono hbX3.size)
            have HsT := Lib.hid (rSame_v (w := X4) (A := none) (B := none) (n := 0) (c := 0) (c' := 0) (IsC.nil0 _) (IsC.nil0 _) (by omega))
            have Hls := Lib.hid (fun X => rLits_v (w := X) (B := none) (B' := none) (m := 0) (d := 0) (d' := 0) (IsG.nil (by simp [maxLen])) (IsG.nil (by simp [maxLen])) (by simp))
            clear z0 z1 zl hb4 hbX3 hK3
            go_wp2_with fail
            refine HsT.out.mono ?_
            rintro e5 X5 ⟨rfl, hb5⟩
            have hbX5 := hbX4.trans (hb5.mono hbX4.size)
            clear hb5 hbX4
            go_wp2_with fail
            refine (Hls.out _).mono ?_
            rintro e6 X6 ⟨rfl, hb6⟩
            have hbX6 := hbX5.trans (hb6.mono hbX5.size)
            clear hb6 hbX5
            go_wp2
            go_ret
            exact ⟨rfl, hbX6⟩
end Go.Proofs.YtgipiplklaeplaaDoor
