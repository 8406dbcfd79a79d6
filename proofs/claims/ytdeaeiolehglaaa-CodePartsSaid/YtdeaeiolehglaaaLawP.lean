/- The walk of the law CodeParts. -/
import Derived.Test.YtdeaeiolehglaaaLawT
import Derived.Test.YtdeaeiolehglaaaM7
set_option linter.unusedVariables false
set_option linter.unusedSimpArgs false
namespace Go.Proofs.Ytdeaeiolehglaaa
open Go.RowKit

theorem isCls_take {c : Cls} {t : List C} {b : List (Bool × List C)} (h : IsCls c (t, b)) (k : Nat) : IsCls ⟨c.head, c.body.take k⟩ (t, b.take k) :=
  ⟨h.head, h.hok, by rw [List.map_take, h.body], fun l hl => h.bok l (List.mem_of_mem_take hl), by have := h.len; simp; omega⟩
theorem may_take {t : List C} {b : List (Bool × List C)} (h : mayB (t, b) = true) (k : Nat) : mayB (t, b.take k) = true := by
  simp only [mayB, Bool.and_eq_true, decide_eq_true_eq, List.all_eq_true] at h ⊢
  exact ⟨h.1, by simp; omega, fun l hl => h.2.2 l (List.mem_of_mem_take hl)⟩
set_option maxRecDepth 100000 in
set_option maxHeartbeats 8000000 in
theorem codeParts_walk (A : Option Addr) (n c : Nat) (t : List C) (B : Option Addr) (m d : Nat) (b : List (Bool × List C)) (at' : Int) (w : World) (h : IsC w A n c t) (hB : IsLs w B m d b) (hat : (Lit.int .u8 at').wf = true) :
    Calls Try.prog 11 #[.agg #[.slice A n c, .slice B m d], .int .u8 at'] w (RetV w (.bool true)) := by
  have hal : Below w.heap.size w (w.alloc (.cells #[.slice A n c, .slice B m d] 25)) := (Below.refl _ _).alloc (Nat.le_refl _) _
  have hhead := head10_any (w.alloc (.cells #[.slice A n c, .slice B m d] 25))
  have Hhead := Lib.hid hhead
  have hx0 : (w.alloc (.cells #[.slice A n c, .slice B m d] 25)).heap[w.heap.size]? = some (.cells #[.slice A n c, .slice B m d] 25 (0, 0)) := alloc_at rfl
  have hgc := fun w1 (hb1 : Below w.heap.size w w1) => Great7_any (some ⟨w1.heap.size, 0, none⟩) 1 1 [(t, b)] (w1.alloc (.cells #[.slice A n c, .slice B m d] 25)) (isCl_one ((h.below hb1).below ((Below.refl _ _).alloc (Nat.le_refl _) _)) (IsG.below keepsLit (IsG.below keepsLit hB hb1) ((Below.refl _ _).alloc (Nat.le_refl _) _)) (alloc_at rfl))
  have Hx0 := Lib.hid hx0
  clear hhead hx0
  cases hg1 : greatC [(t, b)]
  · obtain ⟨q1, q2, q3⟩ := not_great hg1
    rw [hg1] at hgc
    have Hgc := Lib.hid hgc
    have hnl := h.len
    have hml := hB.len
    have hmy := fun w1 (hb1 : Below w.heap.size w w1) => rMay_any A n c t B m d b w1 (h.below hb1) (IsG.below keepsLit hB hb1) (by omega) (by omega) (fun x hx => by have := q3 x hx; omega)
    cases hm : mayB (t, b)
    · rw [hm] at hmy
      have Hmay := Lib.hid hmy
      clear hgc hmy hm hg1 hnl hml q1 q2 q3 h hB
      go_enter Try.func11, Try.ntmps11
      go_wp2_with fail
      refine Hhead.out.mono ?_
      rintro e w1 ⟨rfl, hb1⟩
      have hb := hal.trans (hb1.mono hal.size)
      have x1 := (hb1.block w.heap.size (by simp)).trans Hx0.out
      have xl1 := block_lt x1
      have hgc1 := Hgc.out w1 hb
      have Hgc1 := Lib.hid hgc1
      obtain ⟨y0, y1, yl⟩ := open2 x1
      clear hgc1
      go_wp2_with fail
      refine Hgc1.out.mono ?_
      rintro e w2 ⟨rfl, hb2⟩
      replace hb := (hb.alloc hb.size _).trans (hb2.mono (by simp; omega))
      have x2 := (hb2.block w.heap.size (by simp; omega)).trans ((alloc_past xl1).trans x1)
      have xl2 := block_lt x2
      clear y0 y1 yl x1 xl1 hb1 hb2 Hgc1
      obtain ⟨y0, y1, yl⟩ := open2 x2
      go_wp2_with fail
      refine (Hmay.out _ hb).mono ?_
      rintro e w3 ⟨rfl, hb3⟩
      replace hb := hb.trans (hb3.mono hb.size)
      have x3 := (hb3.block w.heap.size xl2).trans x2
      have xl3 := block_lt x3
      clear y0 y1 yl hb3 x2 xl2
      obtain ⟨y0, y1, yl⟩ := open2 x3
      go_wp2_with fail
      go_ret
      exact ⟨rfl, hb⟩
    · rw [hm] at hmy
      have Hmay := Lib.hid hmy
      obtain ⟨cl, hcl⟩ := mayB_cls hm
      have hm8 : m ≤ 8 := by have := hcl.len; have := congrArg List.length hcl.body; simp at this; omega
      have hu8 : 0 ≤ at' ∧ at' ≤ 255 := by simp [Lit.wf, IntKind.min, IntKind.max, IntKind.signed, IntKind.bits] at hat; omega
      obtain ⟨k, hke, hkm⟩ : ∃ k : Nat, at' % ((m : Int) + 1) = k ∧ k ≤ m := by
        have h1 := Int.emod_nonneg at' (b := (m : Int) + 1) (by omega)
        have h2 := Int.emod_lt_of_pos at' (b := (m : Int) + 1) (by omega)
        exact ⟨(at' % ((m : Int) + 1)).toNat, by omega, by omega⟩
      have hcc := fun w1 (hb1 : Below w.heap.size w w1) => compile_yes cl A n c t B m d b w1 (h.below hb1) (IsG.below keepsLit hB hb1) hcl hm
      have hcp := fun w1 (hb1 : Below w.heap.size w w1) => compile_yes ⟨cl.head, cl.body.take k⟩ A n c t B k d (b.take k) w1 (h.below hb1) ((IsG.below keepsLit hB hb1).take hkm) (isCls_take hcl k) (may_take hm k)
      obtain ⟨u, v, hu, hv⟩ := code_parts cl.head cl.body k
      have hlenF := compF_len hcl
      have hlenP := compF_len (isCls_take hcl k)
      rw [hu] at hcp hlenP
      have hclv : compF cl = u ++ v ++ [lastI cl.head] := hv
      rw [hclv] at hcc hlenF
      obtain ⟨L, hL⟩ : ∃ L, lastI cl.head = L := ⟨_, rfl⟩
      rw [hL] at hcc hcp hlenF hlenP
      obtain ⟨nu, hnu⟩ : ∃ nu, u.length = nu := ⟨_, rfl⟩
      have Hnu := Lib.hid hnu
      have hkd : (k : Int) ≤ (d : Int) := by have := hB.cap_le; omega
      have Hcc := Lib.hid hcc
      have Hcp := Lib.hid hcp
      have HlenF := Lib.hid hlenF
      have HlenP := Lib.hid hlenP
      have hkm' : (k : Int) ≤ (m : Int) := by omega
      have hk0 : (0 : Int) ≤ (k : Int) := by omega
      clear hgc hmy hm hg1 q1 q2 q3 h hB hlenF hlenP hcc hcp hu hv hclv hL hnu hcl hnl hml hat
      go_enter Try.func11, Try.ntmps11
      go_wp2_with fail
      refine Hhead.out.mono ?_
      rintro e w1 ⟨rfl, hb1⟩
      have hb := hal.trans (hb1.mono hal.size)
      have x1 := (hb1.block w.heap.size (by simp)).trans Hx0.out
      have xl1 := block_lt x1
      have hgc1 := Hgc.out w1 hb
      have Hgc1 := Lib.hid hgc1
      obtain ⟨y0, y1, yl⟩ := open2 x1
      clear hgc1
      go_wp2_with fail
      refine Hgc1.out.mono ?_
      rintro e w2 ⟨rfl, hb2⟩
      replace hb := (hb.alloc hb.size _).trans (hb2.mono (by simp; omega))
      have x2 := (hb2.block w.heap.size (by simp; omega)).trans ((alloc_past xl1).trans x1)
      have xl2 := block_lt x2
      clear y0 y1 yl x1 xl1 hb1 hb2 Hgc1
      obtain ⟨y0, y1, yl⟩ := open2 x2
      go_wp2_with fail
      refine (Hmay.out _ hb).mono ?_
      rintro e w3 ⟨rfl, hb3⟩
      replace hb := hb.trans (hb3.mono hb.size)
      have x3 := (hb3.block w.heap.size xl2).trans x2
      have xl3 := block_lt x3
      clear y0 y1 yl hb3 x2 xl2
      obtain ⟨y0, y1, yl⟩ := open2 x3
      go_wp2_with fail
      refine (Hcc.out _ hb).mono ?_
      rintro e w4 ⟨Aa, na, ca, rfl, hKa, hb4⟩
      replace hb := hb.trans (hb4.mono hb.size)
      have x4 := (hb4.block w.heap.size xl3).trans x3
      have xl4 := block_lt x4
      clear y0 y1 yl hb4 x3 xl3
      obtain ⟨y0, y1, yl⟩ := open2 x4
      go_upto_region 6 with fail
      go_region_held3 (fun w' => w'.cell? ⟨w.heap.size, 0, none⟩ = some (.slice A n c) ∧ w'.cell? ⟨w.heap.size, 1, none⟩ = some (.slice B m d))
        (go_keep)
        (first
          | (go_at_call 15; refine (Hcp.out _ (hb.trans ((Below.refl _ _).drew.mono hb.size))).mono ?_; rintro e w5 ⟨Ab, nb, cb, rfl, hKb, hb5⟩; (have hb5w : Below w4.heap.size w4 w5 := Below.trans (Below.refl _ _).drew hb5); (have k0 := (hb5w.cell (p := ⟨w.heap.size, 0, none⟩) xl4).trans y0); (have k1 := (hb5w.cell (p := ⟨w.heap.size, 1, none⟩) xl4).trans y1))
          | fail)
      all_goals
        have hbb : Below w.heap.size w w5 := hb.trans (hb5w.mono hb.size)
        have hKa5 := IsG.below keepsIn hKa hb5w
        have e1 := hKb.len
        have e2 := hKa.len
        have e3 := HlenF.out
        have e4 := HlenP.out
        have e5 := Hnu.out
        simp only [List.length_append, List.length_singleton] at e1 e2 e3 e4
        rw [e5] at e1 e2 e3 e4
        obtain ⟨nv, hnv⟩ : ∃ nv, v.length = nv := ⟨_, rfl⟩
        rw [hnv] at e2 e3
        obtain ⟨j, hj⟩ : ∃ j, nu + nv = j := ⟨_, rfl⟩
        have e2' : j + 1 = na := by omega
        clear e2
        subst e1
        subst e2'
        have hSu : IsK w5 Ab nu cb u := by
          have := hKb.take (m := nu) (by omega)
          rwa [List.take_left' e5] at this
        have hSv : IsK w5 Aa nu ca u := by
          have := hKa5.take (m := nu) (by omega)
          rwa [List.append_assoc, List.take_left' e5] at this
        have hsm := fun dd => rSame10_any Ab Aa nu nu cb ca u u (w5.drewN dd) (IsG.below keepsIn hSu (below_drewN (Below.refl _ _) dd)) (IsG.below keepsIn hSv (below_drewN (Below.refl _ _) dd)) (by omega) (by omega)
        rw [(sameIn_iff u u).2 rfl] at hsm
        obtain ⟨bb, ob, rfl, hbb1, hwfb, p0, p1, p2, p3, p4, p5⟩ := IsK.at' hKb (k := nu) (i := L) (by rw [List.getElem?_append_right (by omega)]; simp [e5])
        obtain ⟨ba, oa, rfl, hba1, hwfa, r0, r1, r2, r3, r4, r5⟩ := IsK.at' hKa5 (k := j) (i := L) (by rw [List.getElem?_append_right (by simp; omega)]; simp [e5, hnv, hj])
        have hcb := hKb.cap_le.1
        have hca := hKa.cap_le.1
        have i1 : (0 : Int) ≤ (nu : Int) := by omega
        have i2 : (nu : Int) ≤ (cb : Int) := by omega
        have i3 : (nu : Int) ≤ (ca : Int) := by omega
        have i4 : (nu : Int) < (j : Int) + 1 := by omega
        have i5 : (0 : Int) ≤ (j : Int) := by omega
        have i6 : (j : Int) ≤ 100000 := by omega
        have i7 : (nu : Int) ≤ 100000 := by omega
        have heq := eqIn L L
        rw [In.beq_iff L L |>.2 rfl] at heq
        have Hsm := Lib.hid hsm
        clear hSu hSv hsm hKb hKa5 hKa e5 hnv hj e3 e4 Hnu HlenF HlenP y0 y1 x4 k0 k1 hwfa hwfb
        go_wp2_with fail
        go_quiet ((go_at_call 17; go_must (refine (Hsm.out _).mono ?_); rintro e9 w9 ⟨he, m9, hm9⟩; exact ⟨he, _, by rw [hm9, World.drewN_drewN]⟩))
        go_wp2
        go_ret
        exact ⟨rfl, below_drewN hbb _⟩
  · rw [hg1] at hgc
    have Hgc := Lib.hid hgc
    clear hgc hg1 h hB
    go_enter Try.func11, Try.ntmps11
    go_wp2_with fail
    refine Hhead.out.mono ?_
    rintro e w1 ⟨rfl, hb1⟩
    have hb := hal.trans (hb1.mono hal.size)
    have x1 := (hb1.block w.heap.size (by simp)).trans Hx0.out
    have xl1 := block_lt x1
    have hgc1 := Hgc.out w1 hb
    have Hgc1 := Lib.hid hgc1
    obtain ⟨y0, y1, yl⟩ := open2 x1
    clear hgc1
    go_wp2_with fail
    refine Hgc1.out.mono ?_
    rintro e w2 ⟨rfl, hb2⟩
    replace hb := (hb.alloc hb.size _).trans (hb2.mono (by simp; omega))
    have x2 := (hb2.block w.heap.size (by simp; omega)).trans ((alloc_past xl1).trans x1)
    have xl2 := block_lt x2
    clear y0 y1 yl x1 xl1 hb1 hb2 Hgc1
    obtain ⟨y0, y1, yl⟩ := open2 x2
    go_wp2_with fail
    go_ret
    exact ⟨rfl, hb⟩
end Go.Proofs.Ytdeaeiolehglaaa
