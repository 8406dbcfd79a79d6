/- The walk of the law CodeBack. -/
import Derived.Test.YtdeaeiolehglaaaLawT
import Derived.Test.YtdeaeiolehglaaaBack3
import Derived.Test.YtdeaeiolehglaaaNum2
set_option linter.unusedVariables false
set_option linter.unusedSimpArgs false
namespace Go.Proofs.Ytdeaeiolehglaaa
open Go.RowKit

/-- Number of a right clause -/
theorem number_cls {cl : Cls} (A : Option Addr) (n c : Nat) (t : List C) (B : Option Addr) (m d : Nat) (b : List (Bool × List C)) (w : World) (h : IsC w A n c t) (hB : IsLs w B m d b) (hcl : IsCls cl (t, b)) (hn : n ≤ 300) (hm : m ≤ 10) (hs : ∀ x ∈ b, x.2.length ≤ 300) :
    Calls Try.prog 24 #[.agg #[.slice A n c, .slice B m d]] w (RetCl w (numC cl)) := by
  have hr := rNumber10_any A n c t B m d b w h hB (by omega) (by omega) (fun x hx => by have := hs x hx; omega) (by
    have h1 := numV_le hcl
    unfold numV at h1
    rw [← varsLr_cls, hcl.head, hcl.body] at h1
    simp only at h1
    omega)
  rw [numR_cls hcl] at hr
  exact hr
/-- are two clauses the same, of which both are right? -/
theorem same_cls {c c' : Cls} {r r' : Raw} (hc : IsCls c r) (hc' : IsCls c' r') (A : Option Addr) (n cp : Nat) (B : Option Addr) (m d : Nat) (A' : Option Addr) (n' cp' : Nat) (B' : Option Addr) (m' d' : Nat) (w : World)
    (h : IsC w A n cp r.1) (hB : IsLs w B m d r.2) (h' : IsC w A' n' cp' r'.1) (hB' : IsLs w B' m' d' r'.2) :
    Calls Try.prog 22 #[.agg #[.slice A n cp, .slice B m d], .agg #[.slice A' n' cp', .slice B' m' d']] w (RetV w (.bool (sameCl r r'))) := by
  have key : ∀ {c : Cls} {r : Raw}, IsCls c r → r.1.length ≤ 100000 ∧ ∀ x ∈ r.2, x.2.length ≤ 100000 := fun {c} {r} h => by
    refine ⟨by rw [← h.head, flat_size]; have := h.hok.2.1; omega, fun x hx => ?_⟩
    rw [← h.body] at hx
    obtain ⟨l, hl, rfl⟩ := List.mem_map.1 hx
    simp only
    rw [flat_size]
    have := (h.bok l hl).2.1
    omega
  have e1 := h.len
  have e2 := h'.len
  have k1 := key hc
  have k2 := key hc'
  exact SameClause_any A n cp r.1 B m d r.2 A' n' cp' r'.1 B' m' d' r'.2 w h hB h' hB' (by omega) (by omega) k1.2 k2.2
set_option maxRecDepth 100000 in
set_option maxHeartbeats 8000000 in
theorem codeBack_walk (A : Option Addr) (n c : Nat) (t : List C) (B : Option Addr) (m d : Nat) (b : List (Bool × List C)) (w : World) (h : IsC w A n c t) (hB : IsLs w B m d b) :
    Calls Try.prog 5 #[.agg #[.slice A n c, .slice B m d]] w (RetV w (.bool true)) := by
  have hal : Below w.heap.size w (w.alloc (.cells #[.slice A n c, .slice B m d] 25)) := (Below.refl _ _).alloc (Nat.le_refl _) _
  have hhead := head10_any (w.alloc (.cells #[.slice A n c, .slice B m d] 25))
  have Hhead := Lib.hid hhead
  have hx0 : (w.alloc (.cells #[.slice A n c, .slice B m d] 25)).heap[w.heap.size]? = some (.cells #[.slice A n c, .slice B m d] 25 (0, 0)) := alloc_at rfl
  have hgc := fun w1 (hb1 : Below w.heap.size w w1) => Great7_any (some ⟨w1.heap.size, 0, none⟩) 1 1 [(t, b)] (w1.alloc (.cells #[.slice A n c, .slice B m d] 25)) (isCl_one ((h.below hb1).below ((Below.refl _ _).alloc (Nat.le_refl _) _)) (IsG.below keepsLit (IsG.below keepsLit hB hb1) ((Below.refl _ _).alloc (Nat.le_refl _) _)) (alloc_at rfl))
  have Hx0 := Lib.hid hx0
  clear hhead hx0
  cases hg1 : greatC [(t, b)]
  · obtain ⟨q1, q2, q3⟩ := not_great hg1
    rw [hg1] at hgc
    have Hgc := Lib.hid hgc
    have hnl := h.len
    have hml := hB.len
    have hmy := fun w1 (hb1 : Below w.heap.size w w1) => rMay_any A n c t B m d b w1 (h.below hb1) (IsG.below keepsLit hB hb1) (by omega) (by omega) (fun x hx => by have := q3 x hx; omega)
    cases hm : mayB (t, b)
    · rw [hm] at hmy
      have Hmay := Lib.hid hmy
      have hcc := fun w1 (hb1 : Below w.heap.size w w1) => compile_no A n c t B m d b w1 (h.below hb1) (IsG.below keepsLit hB hb1) (by omega) (by omega) (fun x hx => by have := q3 x hx; omega) hm
      have Hcc := Lib.hid hcc
      clear hgc hmy hm hg1 hnl hml q1 q2 q3 h hB hcc
      go_enter Try.func5, Try.ntmps5
      go_wp2_with fail
      refine Hhead.out.mono ?_
      rintro e w1 ⟨rfl, hb1⟩
      have hb := hal.trans (hb1.mono hal.size)
      have x1 := (hb1.block w.heap.size (by simp)).trans Hx0.out
      have xl1 := block_lt x1
      have hgc1 := Hgc.out w1 hb
      have Hgc1 := Lib.hid hgc1
      obtain ⟨y0, y1, yl⟩ := open2 x1
      clear hgc1
      go_wp2_with fail
      refine Hgc1.out.mono ?_
      rintro e w2 ⟨rfl, hb2⟩
      replace hb := (hb.alloc hb.size _).trans (hb2.mono (by simp; omega))
      have x2 := (hb2.block w.heap.size (by simp; omega)).trans ((alloc_past xl1).trans x1)
      have xl2 := block_lt x2
      clear y0 y1 yl x1 xl1 hb1 hb2 Hgc1
      obtain ⟨y0, y1, yl⟩ := open2 x2
      go_wp2_with fail
      refine (Hcc.out _ hb).mono ?_
      rintro e w3 ⟨rfl, hb3⟩
      replace hb := hb.trans (hb3.mono hb.size)
      have x3 := (hb3.block w.heap.size xl2).trans x2
      clear y0 y1 yl hb3 x2 xl2
      obtain ⟨y0, y1, yl⟩ := open2 x3
      go_wp2_with fail
      refine (Hmay.out _ hb).mono ?_
      rintro e w4 ⟨rfl, hb4⟩
      replace hb := hb.trans (hb4.mono hb.size)
      go_wp2_with fail
      go_ret
      exact ⟨rfl, hb⟩
    · rw [hm] at hmy
      have Hmay := Lib.hid hmy
      obtain ⟨cl, hcl⟩ := mayB_cls hm
      have hcc := fun w1 (hb1 : Below w.heap.size w w1) => compile_yes cl A n c t B m d b w1 (h.below hb1) (IsG.below keepsLit hB hb1) hcl hm
      have hsc := fun A n cap w hK => source_comp hcl A n cap w hK
      have hnu := fun w1 (hb1 : Below w.heap.size w w1) => number_cls A n c t B m d b w1 (h.below hb1) (IsG.below keepsLit hB hb1) hcl (by omega) (by omega) q3
      have hsm := fun A n c B m d A' n' c' B' m' d' w h1 h2 h3 h4 => same_cls (numCls_is hcl) (numCls_is hcl) A n c B m d A' n' c' B' m' d' w h1 h2 h3 h4
      rw [(sameCl_iff (numC cl) (numC cl)).2 rfl] at hsm
      have Hcc := Lib.hid hcc
      have Hsc := Lib.hid hsc
      have Hnu := Lib.hid hnu
      have Hsm := Lib.hid hsm
      clear hgc hmy hm hg1 hnl hml q1 q2 q3 h hB hcc hsc hnu hsm hcl
      go_enter Try.func5, Try.ntmps5
      go_wp2_with fail
      refine Hhead.out.mono ?_
      rintro e w1 ⟨rfl, hb1⟩
      have hb := hal.trans (hb1.mono hal.size)
      have x1 := (hb1.block w.heap.size (by simp)).trans Hx0.out
      have xl1 := block_lt x1
      have hgc1 := Hgc.out w1 hb
      have Hgc1 := Lib.hid hgc1
      obtain ⟨y0, y1, yl⟩ := open2 x1
      clear hgc1
      go_wp2_with fail
      refine Hgc1.out.mono ?_
      rintro e w2 ⟨rfl, hb2⟩
      replace hb := (hb.alloc hb.size _).trans (hb2.mono (by simp; omega))
      have x2 := (hb2.block w.heap.size (by simp; omega)).trans ((alloc_past xl1).trans x1)
      have xl2 := block_lt x2
      clear y0 y1 yl x1 xl1 hb1 hb2 Hgc1
      obtain ⟨y0, y1, yl⟩ := open2 x2
      go_wp2_with fail
      refine (Hcc.out _ hb).mono ?_
      rintro e w3 ⟨Aa, na, ca, rfl, hKa, hb3⟩
      replace hb := hb.trans (hb3.mono hb.size)
      have x3 := (hb3.block w.heap.size xl2).trans x2
      clear y0 y1 yl hb3 x2 xl2
      go_wp2_with fail
      refine (Hsc.out Aa na ca _ hKa).mono ?_
      rintro e w4 ⟨A4, n4, c4, B4, m4, d4, rfl, hH4, hB4, hb4⟩
      replace hb := hb.trans (hb4.mono hb.size)
      have x4 := (hb4.block w.heap.size (block_lt x3)).trans x3
      clear hb4 x3
      have hgd : Below w.heap.size w (w4.alloc (.cells #[.slice A4 n4 c4, .slice B4 m4 d4] 25)) := hb.alloc hb.size _
      go_upto_region 8 with fail
      refine on_world (fun X => Below w4.heap.size w4 X ∧ X.heap[w4.heap.size]? = some (.cells #[.slice A4 n4 c4, .slice B4 m4 d4] 25 (0, 0))) ⟨(Below.refl _ _).alloc (Nat.le_refl _) _, alloc_at rfl⟩ ?_
      rintro X ⟨hb4X, xd⟩
      obtain ⟨gd, hgd'⟩ : ∃ gd, gd = w4.heap.size := ⟨_, rfl⟩
      rw [← hgd'] at xd ⊢
      have hbX : Below w.heap.size w X := hb.trans (hb4X.mono hb.size)
      have x0 := (hb4X.block w.heap.size (block_lt x4)).trans x4
      have hHX := hH4.below hb4X
      have hBX : IsLs X B4 m4 d4 (numC cl).2 := IsG.below keepsLit hB4 hb4X
      obtain ⟨y0, y1, yl⟩ := open2 x0
      obtain ⟨z0, z1, zl⟩ := open2 xd
      clear hgd hgd' hb4X x4 hH4 hB4 hb
      go_region_law (first
          | (go_simp; go_at_call 23; refine (Hmay.out _ hbX.drew).mono ?_; rintro e w5 ⟨rfl, hb5⟩; have hb5' : Below X.heap.size X w5 := ((Below.refl _ _).drew).trans hb5; obtain ⟨p0, p1, pl⟩ := open2 ((hb5'.block _ yl).trans x0); obtain ⟨q0, q1, ql⟩ := open2 ((hb5'.block _ zl).trans xd))
          | (go_simp; go_at_call 24; refine (Hnu.out _ (hbX.trans (hb5'.mono hbX.size))).mono ?_; rintro e w6 ⟨A6, n6, c6, B6, m6, d6, rfl, hH6, hB6, hb6⟩; have hb6' : Below X.heap.size X w6 := hb5'.trans (hb6.mono hb5'.size); obtain ⟨q0, q1, ql⟩ := open2 ((hb6'.block _ zl).trans xd))
          | (go_simp; go_at_call 22; refine (Hsm.out _ _ _ _ _ _ _ _ _ _ _ _ _ (hHX.below hb6') (IsG.below keepsLit hBX hb6') hH6 hB6).mono ?_; rintro e w7 ⟨rfl, hb7⟩)
          | fail)
      all_goals
        have hb7' := hbX.trans ((hb6'.trans (hb7.mono hb6'.size)).mono hbX.size)
        go_wp2
        go_ret
        exact ⟨rfl, hb7'⟩
  · rw [hg1] at hgc
    have Hgc := Lib.hid hgc
    clear hgc hg1 h hB
    go_enter Try.func5, Try.ntmps5
    go_wp2_with fail
    refine Hhead.out.mono ?_
    rintro e w1 ⟨rfl, hb1⟩
    have hb := hal.trans (hb1.mono hal.size)
    have x1 := (hb1.block w.heap.size (by simp)).trans Hx0.out
    have xl1 := block_lt x1
    have hgc1 := Hgc.out w1 hb
    have Hgc1 := Lib.hid hgc1
    obtain ⟨y0, y1, yl⟩ := open2 x1
    clear hgc1
    go_wp2_with fail
    refine Hgc1.out.mono ?_
    rintro e w2 ⟨rfl, hb2⟩
    replace hb := (hb.alloc hb.size _).trans (hb2.mono (by simp; omega))
    have x2 := (hb2.block w.heap.size (by simp; omega)).trans ((alloc_past xl1).trans x1)
    have xl2 := block_lt x2
    clear y0 y1 yl x1 xl1 hb1 hb2 Hgc1
    obtain ⟨y0, y1, yl⟩ := open2 x2
    go_wp2_with fail
    go_ret
    exact ⟨rfl, hb⟩
end Go.Proofs.Ytdeaeiolehglaaa
