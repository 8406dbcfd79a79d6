/- The walk of the law CodeAlike. -/
import Derived.Test.YtdeaeiolehglaaaLawB
set_option linter.unusedVariables false
set_option linter.unusedSimpArgs false
namespace Go.Proofs.Ytdeaeiolehglaaa
open Go.RowKit

/-- two clauses in a row -/
theorem isCl_two {w : World} {A B A' B' : Option Addr} {n c m d n' c' m' d' : Nat} {t t' : List C} {b b' : List (Bool × List C)} {g : Nat} (h : IsC w A n c t) (hB : IsLs w B m d b) (h' : IsC w A' n' c' t') (hB' : IsLs w B' m' d' b')
    (hg : w.heap[g]? = some (.cells #[.slice A n c, .slice B m d, .slice A' n' c', .slice B' m' d'] 25 (0, 0))) : IsG RCl 2 w (some ⟨g, 0, none⟩) 2 2 [(t, b), (t', b')] :=
  ⟨rfl, [[.slice A n c, .slice B m d], [.slice A' n' c', .slice B' m' d']], rfl, by simp, Sl.blk (cs := #[.slice A n c, .slice B m d, .slice A' n' c', .slice B' m' d']) (t := 25) hg rfl (by simp [maxLen]), fun q x v hx hv => by
    rcases q with _ | _ | q
    · simp at hx hv; subst hx; subst hv; exact ⟨A, n, c, B, m, d, rfl, h, hB⟩
    · simp at hx hv; subst hx; subst hv; exact ⟨A', n', c', B', m', d', rfl, h', hB'⟩
    · simp at hx⟩
theorem not_great2 {t t' : List C} {b b' : List (Bool × List C)} (h : greatC [(t, b), (t', b')] = false) : (t.length ≤ 300 ∧ b.length ≤ 10 ∧ ∀ x ∈ b, x.2.length ≤ 300) ∧ (t'.length ≤ 300 ∧ b'.length ≤ 10 ∧ ∀ x ∈ b', x.2.length ≤ 300) := by
  have h1 : greatC [(t, b)] = false ∧ greatC [(t', b')] = false := by
    simp [greatC] at h ⊢
    exact h
  exact ⟨not_great h1.1, not_great h1.2⟩
theorem alike_both {a b : Cls} {r s : Raw} (ha : IsCls a r) (hb : IsCls b s) : ∃ v, sameIn (compF a) (compF b) = v ∧ sameCl (numC a) (numC b) = v := by
  by_cases h : compF a = compF b
  · exact ⟨true, (sameIn_iff _ _).2 h, (sameCl_iff _ _).2 ((code_alike ha hb).1 h)⟩
  · refine ⟨false, ?_, ?_⟩
    · rw [← Bool.not_eq_true, sameIn_iff]; exact h
    · rw [← Bool.not_eq_true, sameCl_iff]; exact fun e => h ((code_alike ha hb).2 e)
set_option maxRecDepth 100000 in
set_option maxHeartbeats 8000000 in
theorem codeAlike_walk (A : Option Addr) (n c : Nat) (t : List C) (B : Option Addr) (m d : Nat) (b : List (Bool × List C)) (A' : Option Addr) (n' c' : Nat) (t' : List C) (B' : Option Addr) (m' d' : Nat) (b' : List (Bool × List C)) (w : World) (h : IsC w A n c t) (hB : IsLs w B m d b) (h' : IsC w A' n' c' t') (hB' : IsLs w B' m' d' b') :
    Calls Try.prog 6 #[.agg #[.slice A n c, .slice B m d], .agg #[.slice A' n' c', .slice B' m' d']] w (RetV w (.bool true)) := by
  have hal : Below w.heap.size w ((w.alloc (.cells #[.slice A n c, .slice B m d] 25)).alloc (.cells #[.slice A' n' c', .slice B' m' d'] 25)) := ((Below.refl _ _).alloc (Nat.le_refl _) _).alloc (by simp) _
  have hhead := head10_any ((w.alloc (.cells #[.slice A n c, .slice B m d] 25)).alloc (.cells #[.slice A' n' c', .slice B' m' d'] 25))
  have Hhead := Lib.hid hhead
  have hx0 : ((w.alloc (.cells #[.slice A n c, .slice B m d] 25)).alloc (.cells #[.slice A' n' c', .slice B' m' d'] 25)).heap[w.heap.size]? = some (.cells #[.slice A n c, .slice B m d] 25 (0, 0)) := (alloc_past (by simp)).trans (alloc_at rfl)
  have hz0 : ((w.alloc (.cells #[.slice A n c, .slice B m d] 25)).alloc (.cells #[.slice A' n' c', .slice B' m' d'] 25)).heap[w.heap.size + 1]? = some (.cells #[.slice A' n' c', .slice B' m' d'] 25 (0, 0)) := alloc_at (by simp)
  have hgc := fun w1 (hb1 : Below w.heap.size w w1) =>
    have e := (Below.refl w1.heap.size w1).alloc (Nat.le_refl _) (.cells #[.slice A n c, .slice B m d, .slice A' n' c', .slice B' m' d'] 25)
    Great7_any (some ⟨w1.heap.size, 0, none⟩) 2 2 [(t, b), (t', b')] (w1.alloc (.cells #[.slice A n c, .slice B m d, .slice A' n' c', .slice B' m' d'] 25)) (isCl_two ((h.below hb1).below e) (IsG.below keepsLit (IsG.below keepsLit hB hb1) e) ((h'.below hb1).below e) (IsG.below keepsLit (IsG.below keepsLit hB' hb1) e) (alloc_at rfl))
  have Hx0 := Lib.hid hx0
  have Hz0 := Lib.hid hz0
  clear hhead hx0 hz0
  cases hg1 : greatC [(t, b), (t', b')]
  · obtain ⟨⟨q1, q2, q3⟩, ⟨q4, q5, q6⟩⟩ := not_great2 hg1
    rw [hg1] at hgc
    have Hgc := Lib.hid hgc
    have hnl := h.len
    have hml := hB.len
    have hnl' := h'.len
    have hml' := hB'.len
    have hmy := fun w1 (hb1 : Below w.heap.size w w1) => rMay_any A n c t B m d b w1 (h.below hb1) (IsG.below keepsLit hB hb1) (by omega) (by omega) (fun x hx => by have := q3 x hx; omega)
    have hmy' := fun w1 (hb1 : Below w.heap.size w w1) => rMay_any A' n' c' t' B' m' d' b' w1 (h'.below hb1) (IsG.below keepsLit hB' hb1) (by omega) (by omega) (fun x hx => by have := q6 x hx; omega)
    cases hm : mayB (t, b)
    · rw [hm] at hmy
      have Hmay := Lib.hid hmy
      clear hgc hmy hm hg1 hnl hml hnl' hml' hmy' q1 q2 q3 q4 q5 q6 h hB h' hB'
      go_enter Try.func6, Try.ntmps6
      go_wp2_with fail
      refine Hhead.out.mono ?_
      rintro e w1 ⟨rfl, hb1⟩
      have hb := hal.trans (hb1.mono hal.size)
      have x1 := (hb1.block w.heap.size (by simp; omega)).trans Hx0.out
      have z1 := (hb1.block (w.heap.size + 1) (by simp)).trans Hz0.out
      have xl1 := block_lt x1
      have zl1 := block_lt z1
      have hgc1 := Hgc.out w1 hb
      have Hgc1 := Lib.hid hgc1
      obtain ⟨y0, y1, yl⟩ := open2 x1
      obtain ⟨v0, v1, vl⟩ := open2 z1
      clear hgc1
      go_wp2_with fail
      refine Hgc1.out.mono ?_
      rintro e w2 ⟨rfl, hb2⟩
      replace hb := (hb.alloc hb.size _).trans (hb2.mono (by simp; omega))
      have x2 := (hb2.block w.heap.size (by simp; omega)).trans ((alloc_past xl1).trans x1)
      have z2 := (hb2.block (w.heap.size + 1) (by simp; omega)).trans ((alloc_past zl1).trans z1)
      have xl2 := block_lt x2
      have zl2 := block_lt z2
      clear y0 y1 yl v0 v1 vl x1 xl1 z1 zl1 hb1 hb2 Hgc1
      obtain ⟨y0, y1, yl⟩ := open2 x2
      obtain ⟨v0, v1, vl⟩ := open2 z2
      go_wp2_with fail
      refine (Hmay.out _ hb).mono ?_
      rintro e w3 ⟨rfl, hb3⟩
      replace hb := hb.trans (hb3.mono hb.size)
      go_wp2_with fail
      go_ret
      exact ⟨rfl, hb⟩
    · rw [hm] at hmy
      have Hmay := Lib.hid hmy
      cases hm' : mayB (t', b')
      · rw [hm'] at hmy'
        have Hmay' := Lib.hid hmy'
        clear hgc hmy hm hg1 hnl hml hnl' hml' hmy' hm' q1 q2 q3 q4 q5 q6 h hB h' hB'
        go_enter Try.func6, Try.ntmps6
        go_wp2_with fail
        refine Hhead.out.mono ?_
        rintro e w1 ⟨rfl, hb1⟩
        have hb := hal.trans (hb1.mono hal.size)
        have x1 := (hb1.block w.heap.size (by simp; omega)).trans Hx0.out
        have z1 := (hb1.block (w.heap.size + 1) (by simp)).trans Hz0.out
        have xl1 := block_lt x1
        have zl1 := block_lt z1
        have hgc1 := Hgc.out w1 hb
        have Hgc1 := Lib.hid hgc1
        obtain ⟨y0, y1, yl⟩ := open2 x1
        obtain ⟨v0, v1, vl⟩ := open2 z1
        clear hgc1
        go_wp2_with fail
        refine Hgc1.out.mono ?_
        rintro e w2 ⟨rfl, hb2⟩
        replace hb := (hb.alloc hb.size _).trans (hb2.mono (by simp; omega))
        have x2 := (hb2.block w.heap.size (by simp; omega)).trans ((alloc_past xl1).trans x1)
        have z2 := (hb2.block (w.heap.size + 1) (by simp; omega)).trans ((alloc_past zl1).trans z1)
        have xl2 := block_lt x2
        have zl2 := block_lt z2
        clear y0 y1 yl v0 v1 vl x1 xl1 z1 zl1 hb1 hb2 Hgc1
        obtain ⟨y0, y1, yl⟩ := open2 x2
        obtain ⟨v0, v1, vl⟩ := open2 z2
        go_wp2_with fail
        refine (Hmay.out _ hb).mono ?_
        rintro e w3 ⟨rfl, hb3⟩
        replace hb := hb.trans (hb3.mono hb.size)
        replace x2 := (hb3.block w.heap.size (block_lt x2)).trans x2
        replace z2 := (hb3.block (w.heap.size + 1) (block_lt z2)).trans z2
        clear y0 y1 yl v0 v1 vl
        obtain ⟨y0, y1, yl⟩ := open2 x2
        obtain ⟨v0, v1, vl⟩ := open2 z2
        clear hb3
        go_wp2_with fail
        refine (Hmay'.out _ hb).mono ?_
        rintro e w3 ⟨rfl, hb3⟩
        replace hb := hb.trans (hb3.mono hb.size)
        go_wp2_with fail
        go_ret
        exact ⟨rfl, hb⟩
      · rw [hm'] at hmy'
        have Hmay' := Lib.hid hmy'
        obtain ⟨cl, hcl⟩ := mayB_cls hm
        obtain ⟨cl', hcl'⟩ := mayB_cls hm'
        have hnc := numCls_is hcl
        have hcc := fun w1 (hb1 : Below w.heap.size w w1) => compile_yes cl A n c t B m d b w1 (h.below hb1) (IsG.below keepsLit hB hb1) hcl hm
        have hcc' := fun w1 (hb1 : Below w.heap.size w w1) => compile_yes cl' A' n' c' t' B' m' d' b' w1 (h'.below hb1) (IsG.below keepsLit hB' hb1) hcl' hm'
        have hcn := fun A n c B m d w h hB => compile_yes (numCls cl) A n c (numC cl).1 B m d (numC cl).2 w h hB hnc (cls_may hnc)
        rw [comp_num hcl] at hcn
        have hnu := fun w1 (hb1 : Below w.heap.size w w1) => number_cls A n c t B m d b w1 (h.below hb1) (IsG.below keepsLit hB hb1) hcl (by omega) (by omega) q3
        have hnu' := fun w1 (hb1 : Below w.heap.size w w1) => number_cls A' n' c' t' B' m' d' b' w1 (h'.below hb1) (IsG.below keepsLit hB' hb1) hcl' (by omega) (by omega) q6
        have hsm := fun A n c B m d A' n' c' B' m' d' w h1 h2 h3 h4 => same_cls (numCls_is hcl) (numCls_is hcl') A n c B m d A' n' c' B' m' d' w h1 h2 h3 h4
        obtain ⟨v, hv1, hv2⟩ := alike_both hcl hcl'
        rw [hv2] at hsm
        have hs1 := fun A B n m cap cap' w h1 h2 h3 h4 => same10_V A B n m cap cap' (compF cl) (compF cl') w h1 h2 h3 h4
        rw [hv1] at hs1
        have hs2 := fun A B n m cap cap' w h1 h2 h3 h4 => same10_V A B n m cap cap' (compF cl) (compF cl) w h1 h2 h3 h4
        rw [(sameIn_iff (compF cl) (compF cl)).2 rfl] at hs2
        have hl4 := compF_len4 hcl
        have hl4' := compF_len4 hcl'
        have Hcc := Lib.hid hcc
        have Hcc' := Lib.hid hcc'
        have Hcn := Lib.hid hcn
        have Hnu := Lib.hid hnu
        have Hnu' := Lib.hid hnu'
        have Hsm := Lib.hid hsm
        have Hs1 := Lib.hid hs1
        have Hs2 := Lib.hid hs2
        have Hl4 := Lib.hid hl4
        have Hl4' := Lib.hid hl4'
        clear hgc hmy hm hg1 hnl hml hnl' hml' hmy' hm' q1 q2 q3 q4 q5 q6 h hB h' hB' hcc hcc' hcn hnu hnu' hsm hv1 hv2 hs1 hs2 hl4 hl4' hnc hcl hcl'
        go_enter Try.func6, Try.ntmps6
        go_wp2_with fail
        refine Hhead.out.mono ?_
        rintro e w1 ⟨rfl, hb1⟩
        have hb := hal.trans (hb1.mono hal.size)
        have x1 := (hb1.block w.heap.size (by simp; omega)).trans Hx0.out
        have z1 := (hb1.block (w.heap.size + 1) (by simp)).trans Hz0.out
        have xl1 := block_lt x1
        have zl1 := block_lt z1
        have hgc1 := Hgc.out w1 hb
        have Hgc1 := Lib.hid hgc1
        obtain ⟨y0, y1, yl⟩ := open2 x1
        obtain ⟨v0, v1, vl⟩ := open2 z1
        clear hgc1
        go_wp2_with fail
        refine Hgc1.out.mono ?_
        rintro e w2 ⟨rfl, hb2⟩
        replace hb := (hb.alloc hb.size _).trans (hb2.mono (by simp; omega))
        have x2 := (hb2.block w.heap.size (by simp; omega)).trans ((alloc_past xl1).trans x1)
        have z2 := (hb2.block (w.heap.size + 1) (by simp; omega)).trans ((alloc_past zl1).trans z1)
        have xl2 := block_lt x2
        have zl2 := block_lt z2
        clear y0 y1 yl v0 v1 vl x1 xl1 z1 zl1 hb1 hb2 Hgc1
        obtain ⟨y0, y1, yl⟩ := open2 x2
        obtain ⟨v0, v1, vl⟩ := open2 z2
        go_wp2_with fail
        refine (Hmay.out _ hb).mono ?_
        rintro e w3 ⟨rfl, hb3⟩
        replace hb := hb.trans (hb3.mono hb.size)
        replace x2 := (hb3.block w.heap.size (block_lt x2)).trans x2
        replace z2 := (hb3.block (w.heap.size + 1) (block_lt z2)).trans z2
        clear y0 y1 yl v0 v1 vl
        obtain ⟨y0, y1, yl⟩ := open2 x2
        obtain ⟨v0, v1, vl⟩ := open2 z2
        clear hb3
        go_wp2_with fail
        refine (Hmay'.out _ hb).mono ?_
        rintro e w3 ⟨rfl, hb3⟩
        replace hb := hb.trans (hb3.mono hb.size)
        replace x2 := (hb3.block w.heap.size (block_lt x2)).trans x2
        replace z2 := (hb3.block (w.heap.size + 1) (block_lt z2)).trans z2
        clear y0 y1 yl v0 v1 vl
        obtain ⟨y0, y1, yl⟩ := open2 x2
        obtain ⟨v0, v1, vl⟩ := open2 z2
        clear hb3
        go_wp2_with fail
        refine (Hcc.out _ hb).mono ?_
        rintro e w3 ⟨Ax, nx, cx, rfl, hX, hb3⟩
        replace hb := hb.trans (hb3.mono hb.size)
        replace x2 := (hb3.block w.heap.size (block_lt x2)).trans x2
        replace z2 := (hb3.block (w.heap.size + 1) (block_lt z2)).trans z2
        clear y0 y1 yl v0 v1 vl
        obtain ⟨y0, y1, yl⟩ := open2 x2
        obtain ⟨v0, v1, vl⟩ := open2 z2
        clear hb3
        go_wp2_with fail
        refine (Hcc'.out _ hb).mono ?_
        rintro e w3 ⟨Ay, ny, cy, rfl, hY, hb3⟩
        replace hb := hb.trans (hb3.mono hb.size)
        replace x2 := (hb3.block w.heap.size (block_lt x2)).trans x2
        replace z2 := (hb3.block (w.heap.size + 1) (block_lt z2)).trans z2
        clear y0 y1 yl v0 v1 vl
        obtain ⟨y0, y1, yl⟩ := open2 x2
        obtain ⟨v0, v1, vl⟩ := open2 z2
        replace hX := IsG.below keepsIn hX hb3
        clear hb3
        go_wp2_with fail
        refine (Hnu.out _ hb).mono ?_
        rintro e w3 ⟨A3, n3, c3, B3, m3, d3, rfl, hN3, hL3, hb3⟩
        replace hb := hb.trans (hb3.mono hb.size)
        replace x2 := (hb3.block w.heap.size (block_lt x2)).trans x2
        replace z2 := (hb3.block (w.heap.size + 1) (block_lt z2)).trans z2
        clear y0 y1 yl v0 v1 vl
        obtain ⟨y0, y1, yl⟩ := open2 x2
        obtain ⟨v0, v1, vl⟩ := open2 z2
        replace hX := IsG.below keepsIn hX hb3
        replace hY := IsG.below keepsIn hY hb3
        clear hb3
        go_wp2_with fail
        refine (Hcn.out _ _ _ _ _ _ _ hN3 hL3).mono ?_
        rintro e w3 ⟨Az, nz, cz, rfl, hZ, hb3⟩
        replace hb := hb.trans (hb3.mono hb.size)
        replace x2 := (hb3.block w.heap.size (block_lt x2)).trans x2
        replace z2 := (hb3.block (w.heap.size + 1) (block_lt z2)).trans z2
        clear y0 y1 yl v0 v1 vl
        obtain ⟨y0, y1, yl⟩ := open2 x2
        obtain ⟨v0, v1, vl⟩ := open2 z2
        replace hX := IsG.below keepsIn hX hb3
        replace hY := IsG.below keepsIn hY hb3
        clear hb3 hN3 hL3
        have hnx : nx ≤ 100000 := by have := hX.len; have := Hl4.out; omega
        have hny : ny ≤ 100000 := by have := hY.len; have := Hl4'.out; omega
        have hnz : nz ≤ 100000 := by have := hZ.len; have := Hl4.out; omega
        have hXd : IsK w3.drew Ax nx cx (compF cl) := IsG.below keepsIn hX ((Below.refl _ _).drew)
        have hYd : IsK w3.drew Ay ny cy (compF cl') := IsG.below keepsIn hY ((Below.refl _ _).drew)
        have hvv : (v == v) = true := by simp
        clear Hmay Hmay' Hcc Hcc' Hcn Hl4 Hl4' Hgc
        cases v
        all_goals
          go_upto_region 7 with fail
          go_region_held3 (fun w' => w'.cell? ⟨w.heap.size, 0, none⟩ = some (.slice A n c) ∧ w'.cell? ⟨w.heap.size, 1, none⟩ = some (.slice B m d) ∧ w'.cell? ⟨w.heap.size + 1, 0, none⟩ = some (.slice A' n' c') ∧ w'.cell? ⟨w.heap.size + 1, 1, none⟩ = some (.slice B' m' d'))
            (go_keep)
            (first
              | (go_at_call 17; refine (Hs2.out _ _ _ _ _ _ _ (IsG.below keepsIn hX hb8') (IsG.below keepsIn hZ hb8') hnx hnz).mono ?_; rintro e w9 ⟨rfl, hb9⟩; have hb9w : Below w3.heap.size w3 w9 := hb8'.trans (hb9.mono hb8'.size); obtain ⟨k0, k1, kl⟩ := open2 ((hb9w.block _ yl).trans x2); obtain ⟨l0, l1, ll⟩ := open2 ((hb9w.block _ vl).trans z2))
              | (go_at_call 17; refine (Hs1.out _ _ _ _ _ _ _ hXd hYd hnx hny).mono ?_; rintro e w5 ⟨rfl, hb5⟩; have hb5' : Below w3.heap.size w3 w5 := ((Below.refl _ _).drew).trans hb5; obtain ⟨p0, p1, pl⟩ := open2 ((hb5'.block _ yl).trans x2); obtain ⟨q0, q1, ql⟩ := open2 ((hb5'.block _ vl).trans z2))
              | (go_at_call 24; refine (Hnu'.out _ (hb.trans (hb6'.mono hb.size))).mono ?_; rintro e w7 ⟨A5, n5, c5, B5, m5, d5, rfl, hN5, hL5, hb7⟩; have hb7' : Below w3.heap.size w3 w7 := hb6'.trans (hb7.mono hb6'.size); obtain ⟨t0, t1, tl⟩ := open2 ((hb7'.block _ yl).trans x2); obtain ⟨o0, o1, ol⟩ := open2 ((hb7'.block _ vl).trans z2))
              | (go_at_call 24; refine (Hnu.out _ (hb.trans (hb5'.mono hb.size))).mono ?_; rintro e w6 ⟨A4, n4, c4, B4, m4, d4, rfl, hN4, hL4, hb6⟩; have hb6' : Below w3.heap.size w3 w6 := hb5'.trans (hb6.mono hb5'.size); obtain ⟨r0, r1, rl⟩ := open2 ((hb6'.block _ yl).trans x2); obtain ⟨s0, s1, sl⟩ := open2 ((hb6'.block _ vl).trans z2))
              | (go_at_call 22; refine (Hsm.out _ _ _ _ _ _ _ _ _ _ _ _ _ (hN4.below hb7) (IsG.below keepsLit hL4 hb7) hN5 hL5).mono ?_; rintro e w8 ⟨rfl, hb8⟩; have hb8' : Below w3.heap.size w3 w8 := hb7'.trans (hb8.mono hb7'.size); obtain ⟨i0, i1, il⟩ := open2 ((hb8'.block _ yl).trans x2); obtain ⟨j0, j1, jl⟩ := open2 ((hb8'.block _ vl).trans z2))
              | fail)
          all_goals
            have hb9' := hb.trans ((hb8'.trans (hb9.mono hb8'.size)).mono hb.size)
            go_wp2
            go_ret
            exact ⟨rfl, hb9'⟩
  · rw [hg1] at hgc
    have Hgc := Lib.hid hgc
    clear hgc hg1 h hB h' hB'
    go_enter Try.func6, Try.ntmps6
    go_wp2_with fail
    refine Hhead.out.mono ?_
    rintro e w1 ⟨rfl, hb1⟩
    have hb := hal.trans (hb1.mono hal.size)
    have x1 := (hb1.block w.heap.size (by simp; omega)).trans Hx0.out
    have z1 := (hb1.block (w.heap.size + 1) (by simp)).trans Hz0.out
    have xl1 := block_lt x1
    have zl1 := block_lt z1
    have hgc1 := Hgc.out w1 hb
    have Hgc1 := Lib.hid hgc1
    obtain ⟨y0, y1, yl⟩ := open2 x1
    obtain ⟨v0, v1, vl⟩ := open2 z1
    clear hgc1
    go_wp2_with fail
    refine Hgc1.out.mono ?_
    rintro e w2 ⟨rfl, hb2⟩
    replace hb := (hb.alloc hb.size _).trans (hb2.mono (by simp; omega))
    have x2 := (hb2.block w.heap.size (by simp; omega)).trans ((alloc_past xl1).trans x1)
    have z2 := (hb2.block (w.heap.size + 1) (by simp; omega)).trans ((alloc_past zl1).trans z1)
    have xl2 := block_lt x2
    have zl2 := block_lt z2
    clear y0 y1 yl v0 v1 vl x1 xl1 z1 zl1 hb1 hb2 Hgc1
    obtain ⟨y0, y1, yl⟩ := open2 x2
    obtain ⟨v0, v1, vl⟩ := open2 z2
    go_wp2_with fail
    go_ret
    exact ⟨rfl, hb⟩
end Go.Proofs.Ytdeaeiolehglaaa
