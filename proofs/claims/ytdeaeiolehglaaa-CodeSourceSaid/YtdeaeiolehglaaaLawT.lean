/- The walk of the law CodeTells. -/
import Derived.Test.YtdeaeiolehglaaaHead10
import Derived.Test.YtdeaeiolehglaaaOkr
set_option linter.unusedVariables false
set_option linter.unusedSimpArgs false
namespace Go.Proofs.Ytdeaeiolehglaaa
open Go.RowKit

/-- one clause in a row -/
theorem isCl_one {w : World} {A B : Option Addr} {n c m d : Nat} {t : List C} {b : List (Bool × List C)} {g : Nat} (h : IsC w A n c t) (hB : IsLs w B m d b) (hg : w.heap[g]? = some (.cells #[.slice A n c, .slice B m d] 25 (0, 0))) : IsG RCl 2 w (some ⟨g, 0, none⟩) 1 1 [(t, b)] :=
  ⟨rfl, [[.slice A n c, .slice B m d]], rfl, by simp, Sl.blk (cs := #[.slice A n c, .slice B m d]) (t := 25) hg rfl (by simp [maxLen]), fun q x v hx hv => by
    rcases q with _ | q
    · simp at hx hv; subst hx; subst hv; exact ⟨A, n, c, B, m, d, rfl, h, hB⟩
    · simp at hx⟩
theorem not_great {t : List C} {b : List (Bool × List C)} (h : greatC [(t, b)] = false) : t.length ≤ 300 ∧ b.length ≤ 10 ∧ ∀ x ∈ b, x.2.length ≤ 300 := by
  simp [greatC, bigCl, bigLits] at h
  refine ⟨h.1, h.2.1, fun x hx => ?_⟩
  obtain ⟨x1, x2⟩ := x
  cases x1
  · exact h.2.2.1 x2 hx
  · exact h.2.2.2 x2 hx
theorem not_greatI {l : List In} (h : greatI l = false) : l.length ≤ 3000 ∧ okRegs l := by
  simp [greatI, bigIn] at h
  exact ⟨h.1, fun i hi => by have := h.2 i hi; omega⟩
set_option maxRecDepth 100000 in
set_option maxHeartbeats 4000000 in
theorem codeTells_walk (A : Option Addr) (n c : Nat) (t : List C) (B : Option Addr) (m d : Nat) (b : List (Bool × List C)) (K : Option Addr) (nk ck : Nat) (l : List In) (w : World) (h : IsC w A n c t) (hB : IsLs w B m d b) (hK : IsK w K nk ck l) :
    Calls Try.prog 3 #[.agg #[.slice A n c, .slice B m d], .slice K nk ck] w (RetV w (.bool true)) := by
  have hal : Below w.heap.size w (w.alloc (.cells #[.slice A n c, .slice B m d] 25)) := (Below.refl _ _).alloc (Nat.le_refl _) _
  have hhead := head10_any (w.alloc (.cells #[.slice A n c, .slice B m d] 25))
  have Hhead := Lib.hid hhead
  have hx0 : (w.alloc (.cells #[.slice A n c, .slice B m d] 25)).heap[w.heap.size]? = some (.cells #[.slice A n c, .slice B m d] 25 (0, 0)) := alloc_at rfl
  have hgc := fun w1 (hb1 : Below w.heap.size w w1) => Great7_any (some ⟨w1.heap.size, 0, none⟩) 1 1 [(t, b)] (w1.alloc (.cells #[.slice A n c, .slice B m d] 25)) (isCl_one ((h.below hb1).below ((Below.refl _ _).alloc (Nat.le_refl _) _)) (IsG.below keepsLit (IsG.below keepsLit hB hb1) ((Below.refl _ _).alloc (Nat.le_refl _) _)) (alloc_at rfl))
  have hgi := fun w1 (hb1 : Below w.heap.size w w1) => great10_any K nk ck l w1 (IsG.below keepsIn hK hb1)
  have HB := Lib.hid hB
  have HK := Lib.hid hK
  have HH := Lib.hid h
  have Hx0 := Lib.hid hx0
  clear hhead hx0
  cases hg1 : greatC [(t, b)]
  · cases hg2 : greatI l
    · obtain ⟨q1, q2, q3⟩ := not_great hg1
      obtain ⟨q4, q5⟩ := not_greatI hg2
      rw [hg1] at hgc
      rw [hg2] at hgi
      have Hgc := Lib.hid hgc
      have Hgi := Lib.hid hgi
      have hnl := h.len
      have hml := hB.len
      have hkl := hK.len
      have hcR := fun w1 (hb1 : Below w.heap.size w w1) => cRegs_any K nk ck l w1 (IsG.below keepsIn hK hb1) (by omega) q5
      have hrR := fun w1 (hb1 : Below w.heap.size w w1) => rRegs_any K nk ck l w1 (IsG.below keepsIn hK hb1) (by omega) q5
      have HcR := Lib.hid hcR
      have HrR := Lib.hid hrR
      cases hm : mayB (t, b)
      · have hcc := fun w1 (hb1 : Below w.heap.size w w1) => compile_no A n c t B m d b w1 (h.below hb1) (IsG.below keepsLit hB hb1) (by omega) (by omega) (fun x hx => by have := q3 x hx; omega) hm
        have hrc := fun w1 (hb1 : Below w.heap.size w w1) => rcompile_no A n c t B m d b w1 (h.below hb1) (IsG.below keepsLit hB hb1) (by omega) (by omega) (fun x hx => by have := q3 x hx; omega) hm
        have Hcc := Lib.hid hcc
        have Hrc := Lib.hid hrc
        clear hgc hgi hcR hrR hcc hrc hm hg1 hg2 hnl hml hkl q1 q2 q3 q4 q5 h hB hK
        go_enter Try.func3, Try.ntmps3
        go_wp2_with fail
        refine Hhead.out.mono ?_
        rintro e w1 ⟨rfl, hb1⟩
        have hb := hal.trans (hb1.mono hal.size)
        have x1 := (hb1.block w.heap.size (by simp)).trans Hx0.out
        have xl1 := block_lt x1
        have hgc1 := Hgc.out w1 hb
        have Hgc1 := Lib.hid hgc1
        obtain ⟨y0, y1, yl⟩ := open2 x1
        clear hgc1
        go_wp2_with fail
        refine Hgc1.out.mono ?_
        rintro e w2 ⟨rfl, hb2⟩
        replace hb := (hb.alloc hb.size _).trans (hb2.mono (by simp; omega))
        have x2 := (hb2.block w.heap.size (by simp; omega)).trans ((alloc_past xl1).trans x1)
        have xl2 := block_lt x2
        clear y0 y1 yl x1 xl1 hb1 hb2 Hgc1
        go_wp2_with fail
        refine (Hgi.out _ hb).mono ?_
        rintro e w3 ⟨rfl, hb3⟩
        replace hb := hb.trans (hb3.mono hb.size)
        have x3 := (hb3.block w.heap.size xl2).trans x2
        obtain ⟨y0, y1, yl⟩ := open2 x3
        have xl3 := block_lt x3
        clear hb3 x2 xl2
        go_wp2_with fail
        refine (Hcc.out _ hb).mono ?_
        rintro e w4 ⟨rfl, hb4⟩
        replace hb := hb.trans (hb4.mono hb.size)
        have x4 := (hb4.block w.heap.size xl3).trans x3
        clear y0 y1 yl
        obtain ⟨y0, y1, yl⟩ := open2 x4
        clear hb4 x3 xl3
        go_wp2_with fail
        refine (Hrc.out _ hb).mono ?_
        rintro e w5 ⟨rfl, hb5⟩
        replace hb := hb.trans (hb5.mono hb.size)
        clear y0 y1 yl x4 hb5
        go_wp2_with fail
        refine (same10_V none none 0 0 0 0 [] [] _ (isK_nil _) (isK_nil _) (by omega) (by omega)).mono ?_
        rw [(sameIn_iff [] []).2 rfl]
        rintro e w6 ⟨rfl, hb6⟩
        replace hb := hb.trans (hb6.mono hb.size)
        clear hb6
        go_wp2_with fail
        refine (HcR.out _ hb).mono ?_
        rintro e w7 ⟨rfl, hb7⟩
        replace hb := hb.trans (hb7.mono hb.size)
        clear hb7
        go_wp2_with fail
        refine (HrR.out _ hb).mono ?_
        rintro e w8 ⟨rfl, hb8⟩
        replace hb := hb.trans (hb8.mono hb.size)
        clear hb8
        go_wp2_with fail
        refine (cRegs_any none 0 0 [] _ (isK_nil _) (by omega) (fun i hi => by simp at hi)).mono ?_
        rintro e w9 ⟨rfl, hb9⟩
        replace hb := hb.trans (hb9.mono hb.size)
        clear hb9
        go_wp2_with fail
        refine (rRegs_any none 0 0 [] _ (isK_nil _) (by omega) (fun i hi => by simp at hi)).mono ?_
        rintro e w10 ⟨rfl, hb10⟩
        replace hb := hb.trans (hb10.mono hb.size)
        clear hb10
        go_wp2_with fail
        go_ret
        exact ⟨rfl, hb⟩
      · obtain ⟨cl, hcl⟩ := mayB_cls hm
        have hcc := fun w1 (hb1 : Below w.heap.size w w1) => compile_yes cl A n c t B m d b w1 (h.below hb1) (IsG.below keepsLit hB hb1) hcl hm
        have hrc := fun w1 (hb1 : Below w.heap.size w w1) => rcompile_yes cl A n c t B m d b w1 (h.below hb1) (IsG.below keepsLit hB hb1) hcl hm
        have hlenF := compF_len hcl
        have hokr := compF_okr hcl
        have Hcc := Lib.hid hcc
        have Hrc := Lib.hid hrc
        have HlenF := Lib.hid hlenF
        have Hokr := Lib.hid hokr
        clear hgc hgi hcR hrR hcc hrc hm hg1 hg2 hnl hml hkl q1 q2 q3 q4 q5 h hB hK hlenF hokr hcl
        go_enter Try.func3, Try.ntmps3
        go_wp2_with fail
        refine Hhead.out.mono ?_
        rintro e w1 ⟨rfl, hb1⟩
        have hb := hal.trans (hb1.mono hal.size)
        have x1 := (hb1.block w.heap.size (by simp)).trans Hx0.out
        have xl1 := block_lt x1
        have hgc1 := Hgc.out w1 hb
        have Hgc1 := Lib.hid hgc1
        obtain ⟨y0, y1, yl⟩ := open2 x1
        clear hgc1
        go_wp2_with fail
        refine Hgc1.out.mono ?_
        rintro e w2 ⟨rfl, hb2⟩
        replace hb := (hb.alloc hb.size _).trans (hb2.mono (by simp; omega))
        have x2 := (hb2.block w.heap.size (by simp; omega)).trans ((alloc_past xl1).trans x1)
        have xl2 := block_lt x2
        clear y0 y1 yl x1 xl1 hb1 hb2 Hgc1
        go_wp2_with fail
        refine (Hgi.out _ hb).mono ?_
        rintro e w3 ⟨rfl, hb3⟩
        replace hb := hb.trans (hb3.mono hb.size)
        have x3 := (hb3.block w.heap.size xl2).trans x2
        obtain ⟨y0, y1, yl⟩ := open2 x3
        have xl3 := block_lt x3
        clear hb3 x2 xl2
        go_wp2_with fail
        refine (Hcc.out _ hb).mono ?_
        rintro e w4 ⟨Aa, na, ca, rfl, hKa, hb4⟩
        replace hb := hb.trans (hb4.mono hb.size)
        have x4 := (hb4.block w.heap.size xl3).trans x3
        clear y0 y1 yl
        obtain ⟨y0, y1, yl⟩ := open2 x4
        clear hb4 x3 xl3
        go_wp2_with fail
        refine (Hrc.out _ hb).mono ?_
        rintro e w5 ⟨Ab, nb, cb, rfl, hKb, hb5⟩
        replace hb := hb.trans (hb5.mono hb.size)
        replace hKa := IsG.below keepsIn hKa hb5
        clear y0 y1 yl x4 hb5
        have hna : na ≤ 100000 := by have := hKa.len; have := HlenF.out; omega
        have hnb : nb ≤ 100000 := by have := hKb.len; have := HlenF.out; omega
        go_wp2_with fail
        refine (same10_V Aa Ab na nb ca cb (compF cl) (compF cl) _ hKa hKb hna hnb).mono ?_
        rw [(sameIn_iff (compF cl) (compF cl)).2 rfl]
        rintro e w6 ⟨rfl, hb6⟩
        replace hb := hb.trans (hb6.mono hb.size)
        replace hKa := IsG.below keepsIn hKa hb6
        replace hKb := IsG.below keepsIn hKb hb6
        clear hb6
        go_wp2_with fail
        refine (HcR.out _ hb).mono ?_
        rintro e w7 ⟨rfl, hb7⟩
        replace hb := hb.trans (hb7.mono hb.size)
        replace hKa := IsG.below keepsIn hKa hb7
        replace hKb := IsG.below keepsIn hKb hb7
        clear hb7
        go_wp2_with fail
        refine (HrR.out _ hb).mono ?_
        rintro e w8 ⟨rfl, hb8⟩
        replace hb := hb.trans (hb8.mono hb.size)
        replace hKa := IsG.below keepsIn hKa hb8
        replace hKb := IsG.below keepsIn hKb hb8
        clear hb8
        go_wp2_with fail
        refine (cRegs_any Aa na ca (compF cl) _ hKa hna Hokr.out).mono ?_
        rintro e w9 ⟨rfl, hb9⟩
        replace hb := hb.trans (hb9.mono hb.size)
        replace hKb := IsG.below keepsIn hKb hb9
        clear hb9
        go_wp2_with fail
        refine (rRegs_any Ab nb cb (compF cl) _ hKb hnb Hokr.out).mono ?_
        rintro e w10 ⟨rfl, hb10⟩
        replace hb := hb.trans (hb10.mono hb.size)
        clear hb10
        go_wp2_with fail
        go_ret
        exact ⟨rfl, hb⟩
    · rw [hg1] at hgc
      rw [hg2] at hgi
      have Hgc := Lib.hid hgc
      have Hgi := Lib.hid hgi
      clear hgc hgi hg1 hg2 h hB hK
      go_enter Try.func3, Try.ntmps3
      go_wp2_with fail
      refine Hhead.out.mono ?_
      rintro e w1 ⟨rfl, hb1⟩
      have hb := hal.trans (hb1.mono hal.size)
      have x1 := (hb1.block w.heap.size (by simp)).trans Hx0.out
      have xl1 := block_lt x1
      have hgc1 := Hgc.out w1 hb
      have Hgc1 := Lib.hid hgc1
      obtain ⟨y0, y1, yl⟩ := open2 x1
      clear hgc1
      go_wp2_with fail
      refine Hgc1.out.mono ?_
      rintro e w2 ⟨rfl, hb2⟩
      replace hb := (hb.alloc hb.size _).trans (hb2.mono (by simp; omega))
      have x2 := (hb2.block w.heap.size (by simp; omega)).trans ((alloc_past xl1).trans x1)
      have xl2 := block_lt x2
      clear y0 y1 yl x1 xl1 hb1 hb2 Hgc1
      go_wp2_with fail
      refine (Hgi.out _ hb).mono ?_
      rintro e w3 ⟨rfl, hb3⟩
      replace hb := hb.trans (hb3.mono hb.size)
      have x3 := (hb3.block w.heap.size xl2).trans x2
      obtain ⟨y0, y1, yl⟩ := open2 x3
      have xl3 := block_lt x3
      clear hb3 x2 xl2
      go_wp2_with fail
      go_ret
      exact ⟨rfl, hb⟩
  · rw [hg1] at hgc
    have Hgc := Lib.hid hgc
    clear hgc hgi hg1 h hB hK
    go_enter Try.func3, Try.ntmps3
    go_wp2_with fail
    refine Hhead.out.mono ?_
    rintro e w1 ⟨rfl, hb1⟩
    have hb := hal.trans (hb1.mono hal.size)
    have x1 := (hb1.block w.heap.size (by simp)).trans Hx0.out
    have xl1 := block_lt x1
    have hgc1 := Hgc.out w1 hb
    have Hgc1 := Lib.hid hgc1
    obtain ⟨y0, y1, yl⟩ := open2 x1
    clear hgc1
    go_wp2_with fail
    refine Hgc1.out.mono ?_
    rintro e w2 ⟨rfl, hb2⟩
    replace hb := (hb.alloc hb.size _).trans (hb2.mono (by simp; omega))
    have x2 := (hb2.block w.heap.size (by simp; omega)).trans ((alloc_past xl1).trans x1)
    have xl2 := block_lt x2
    clear y0 y1 yl x1 xl1 hb1 hb2 Hgc1
    go_wp2_with fail
    go_ret
    exact ⟨rfl, hb⟩
end Go.Proofs.Ytdeaeiolehglaaa
