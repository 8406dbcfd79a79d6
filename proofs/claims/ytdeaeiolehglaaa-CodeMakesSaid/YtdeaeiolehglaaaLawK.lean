/- The walk of the law CodeMakes. -/
import Derived.Test.YtdeaeiolehglaaaLawB
set_option linter.unusedVariables false
set_option linter.unusedSimpArgs false
namespace Go.Proofs.Ytdeaeiolehglaaa
open Go.RowKit

/-- two rows, one behind the other -/
theorem IsK.app {w : World} {A : Option Addr} {n cap : Nat} {xs ys : List In} {vs us : List (List Value)} (hx1 : vs.length = xs.length) (hx2 : ∀ v ∈ vs, v.length = 6) (hx4 : ∀ (i : Nat) (x : In) (v : List Value), xs[i]? = some x → vs[i]? = some v → RIn w x v)
    (hy1 : us.length = ys.length) (hy2 : ∀ v ∈ us, v.length = 6) (hy4 : ∀ (i : Nat) (x : In) (v : List Value), ys[i]? = some x → us[i]? = some v → RIn w x v) (hn : xs.length + ys.length = n) (hs : Sl w 6 A n cap (vs.flatten ++ us.flatten)) : IsK w A n cap (xs ++ ys) := by
  refine ⟨by simp [hn], vs ++ us, by simp [hx1, hy1], fun v hv => (List.mem_append.1 hv).elim (hx2 v) (hy2 v), by simpa using hs, fun i x v hx hv => ?_⟩
  rw [List.getElem?_append] at hx hv
  rw [hx1] at hv
  split at hx
  · rename_i h; rw [if_pos h] at hv; exact hx4 i x v hx hv
  · rename_i h; rw [if_neg h] at hv; exact hy4 _ x v hx hv
set_option maxRecDepth 100000 in
set_option maxHeartbeats 8000000 in
theorem codeMakes_walk (K : Option Addr) (nk ck : Nat) (l : List In) (at' : Int) (w : World) (hK : IsK w K nk ck l) (hat : (Lit.int .u16 at').wf = true) :
    Calls Try.prog 7 #[.slice K nk ck, .int .u16 at'] w (RetV w (.bool true)) := by
  have Hhead := Lib.hid (head10_any w)
  have hkl := hK.len
  have hgi := fun w1 (hb1 : Below w.heap.size w w1) => great10_any K nk ck l w1 (IsG.below keepsIn hK hb1)
  by_cases hlong : 400 < nk
  · have hl1 : (400 : Int) < (nk : Int) := by omega
    clear hgi hK hkl
    go_enter Try.func7, Try.ntmps7
    go_wp2_with fail
    refine Hhead.out.mono ?_
    rintro e w1 ⟨rfl, hb⟩
    go_wp2_with fail
    go_ret
    exact ⟨rfl, hb⟩
  · have hl1 : ¬ (400 : Int) < (nk : Int) := by omega
    cases hg : greatI l
    · rw [hg] at hgi
      have Hgi := Lib.hid hgi
      have hsrc := fun w1 (hb1 : Below w.heap.size w w1) => source_gen K nk ck l w1 (IsG.below keepsIn hK hb1) (by omega)
      have Hsrc := Lib.hid hsrc
      clear hgi hg hsrc
      go_enter Try.func7, Try.ntmps7
      go_wp2_with fail
      refine Hhead.out.mono ?_
      rintro e w1 ⟨rfl, hb⟩
      go_wp2_with fail
      refine (Hgi.out _ hb).mono ?_
      rintro e w2 ⟨rfl, hb2⟩
      replace hb := hb.trans (hb2.mono hb.size)
      clear hb2
      go_wp2_with fail
      refine (Hsrc.out _ hb).mono ?_
      rintro e w3 (⟨rfl, _, hb3⟩ | ⟨c, A3, n3, c3, B3, m3, d3, hc, hcl, rfl, h3, hB3, hb3⟩)
      · replace hb := hb.trans (hb3.mono hb.size)
        clear hb3
        go_wp2_with fail
        go_ret
        exact ⟨rfl, hb.alloc hb.size _⟩
      · replace hb := hb.trans (hb3.mono hb.size)
        clear hb3
        have hcc := fun w1 (hb1 : Below w3.heap.size w3 w1) => compile_yes c A3 n3 c3 (numC c).1 B3 m3 d3 (numC c).2 w1 (h3.below hb1) (IsG.below keepsLit hB3 hb1) hc (cls_may hc)
        rw [hcl] at hcc
        have Hcc := Lib.hid hcc
        have hpos : 0 < nk := by
          obtain ⟨u, hu⟩ := comp_last (c := c)
          rw [hcl] at hu
          rw [← hkl, hu]
          simp
        have hK3 : IsK w3 K nk ck l := IsG.below keepsIn hK hb
        have hcap := hK.cap_le
        have hat2 : 0 ≤ at' ∧ at' ≤ 65535 := by simp [Lit.wf, IntKind.min, IntKind.max, IntKind.signed, IntKind.bits] at hat; omega
        obtain ⟨kk, hkk⟩ : ∃ kk : Nat, at' % (nk : Int) = kk := ⟨(at' % (nk : Int)).toNat, by have := Int.emod_nonneg at' (b := (nk : Int)) (by omega); omega⟩
        have hkn : kk < nk := by have := Int.emod_lt_of_pos at' (b := (nk : Int)) (by omega); omega
        have hz : ¬ (nk : Int) = 0 := by omega
        have hz2 : ((nk : Int) == 0) = false := by simp; omega
        have Hhb := Lib.hid hb
        clear hcc Hsrc Hgi Hhead hK hb hat
        go_upto_region 7 with fail
        refine on_world (fun X => Below w3.heap.size w3 X ∧ X.heap[w3.heap.size]? = some (.cells #[.slice A3 n3 c3, .slice B3 m3 d3] 25 (0, 0))) ⟨(Below.refl _ _).alloc (Nat.le_refl _) _, alloc_at rfl⟩ ?_
        rintro X ⟨hbX, x0⟩
        obtain ⟨y0, y1, yl⟩ := open2 x0
        go_wp2_with fail
        refine (Hcc.out _ hbX).mono ?_
        rintro e w4 ⟨Aa, na, ca, rfl, hKa, hb4⟩
        have hb4' := hbX.trans (hb4.mono hbX.size)
        have x4 := (hb4.block _ (block_lt x0)).trans x0
        have hK4 : IsK w4 K nk ck l := IsG.below keepsIn hK3 hb4'
        have hsm := same10_V Aa K na nk ca ck l l w4 hKa hK4 (by have := hKa.len; omega) (by omega)
        rw [(sameIn_iff l l).2 rfl] at hsm
        have Hsm := Lib.hid hsm
        clear hsm y0 y1 yl x0 hbX hb4 Hcc
        go_wp2_with fail
        refine Hsm.out.mono ?_
        rintro e w5 ⟨rfl, hb5⟩
        have hb5' := hb4'.trans (hb5.mono hb4'.size)
        have x5 := (hb5.block _ (block_lt x4)).trans x4
        have hK5 : IsK w5 K nk ck l := IsG.below keepsIn hK3 hb5'
        clear hK4 hb4' hb5 x4 Hsm hKa
        go_upto_region 11 with fail
        simp only [hkk]
        have hT : IsK w5 K kk ck (l.take kk) := hK5.take (Nat.le_of_lt hkn)
        have hDr := IsG.drop hK5 (m := kk + 1) hkn
        obtain ⟨us, u1, u2, usl, u4⟩ := hT.rows
        obtain ⟨vs, v1, v2, vsl, v4⟩ := hDr.rows
        have hone1 := one_code u1 u4
        have hone2 := one_code v1 v4
        have hbX1 : Below w5.heap.size w5 w5 := Below.refl _ _
        have g1 : kk ≤ ck := by omega
        have g2 : kk + 1 ≤ nk := by omega
        have g3 : nk ≤ ck := by omega
        have g4 : (kk : Int) + 1 ≤ (nk : Int) := by omega
        have g5 : IntKind.i64.wrap ((kk : Int) + 1) = (kk : Int) + 1 := by rw [IntKind.wrap_i64]; omega
        have g6 : ((kk : Int) + 1).toNat = kk + 1 := by omega
        have g7 : 0 ≤ (kk : Int) + 1 := by omega
        go_region_law (first
          | (refine step_append_any (xs := us.flatten) (by rfl) (.tmp 70) (.tmp 74) 26 (by rfl) w5.heap.size 48 Try.underlying26 infoIn (by rfl) (by omega) (by rfl) ?_ ?_ (by rfl) ?_ hone2 (by omega) (by omega) ?_ ?_ ?_; (focus (exact ht1)); (focus (exact fun b hb => (hap1.blk b hb).1)); (focus (exact vsl.below hbX2)); (focus (exact hs1)); (focus (exact ht1.none_cap)); intro A2 cap2 w7 ht2 hbn2 hap2)
          | (refine step_append_any (by rfl) (.tmp 66) (.tmp 69) 26 (by rfl) w5.heap.size 48 Try.underlying26 infoIn (by rfl) (by omega) (by rfl) (Tail.nil _ _ _ _ _) ?_ (by rfl) ?_ hone1 (by omega) (by omega) ?_ (by intro hq; cases hq) ?_; (focus (intro b hb; cases hb; first | omega | (simp; done) | (simp; omega))); (focus (refine usl.below ?_; exact by repeat (first | exact Below.refl _ _ | exact hbX1 | refine Below.drew ?_ | refine Below.alloc ?_ ?_ _ | (first | omega | (simp; done) | (simp; omega))))); (focus (first | omega | (simp; done) | (simp; omega))); intro A1 cap1 w6 ht1 hbn1 hap1; (try simp only [Nat.zero_add, List.nil_append] at ht1 ⊢); have hbX2 : Below w5.heap.size w5 w6 := Below.trans (by repeat (first | exact Below.refl _ _ | exact hbX1 | refine Below.drew ?_ | refine Below.alloc ?_ ?_ _ | (first | omega | (simp; done) | (simp; omega)))) hbn1; have hs1 := hbX2.size)
          | fail)
        all_goals
          have hb7 : Below w5.heap.size w5 w7 := hbX2.trans (hbn2.mono (by first | exact hs1 | exact Nat.le_refl _ | (simp; omega)))
          have hll : (l.take kk ++ l.drop (kk + 1)).length = kk + (nk - (kk + 1)) := by rw [List.length_append, List.length_take, List.length_drop]; omega
          have hK7 : IsK w7 A2 (kk + (nk - (kk + 1))) cap2 (l.take kk ++ l.drop (kk + 1)) :=
            IsK.app u1 u2 (fun i x v hx hv => u4 i x v hx hv) v1 v2 (fun i x v hx hv => v4 i x v hx hv) (by rw [List.length_append] at hll; exact hll) (ht2.sl (by omega))
          have x7 := (hb7.block _ (block_lt x5)).trans x5
          have hb37 := hb5'.trans (hb7.mono hb5'.size)
          have hsr := source_gen A2 _ cap2 _ w7 hK7 (by omega)
          have Hsr := Lib.hid hsr
          have H37 := Lib.hid hb37
          clear hsr u1 u2 usl u4 v1 v2 vsl v4 hone1 hone2 hbX1 hT hDr hbX2 ht1 ht2 hbn1 hbn2 hap1 hap2 hs1 hb7 hb37 x5 hK5 hb5' hll hK7
          generalize (if ck = kk + 1 then K else Option.map (fun x => x.add ((kk + 1) * 6)) K) = K'
          go_wp2_with fail
          refine Hsr.out.mono ?_
          rintro e w8 (⟨rfl, _, hb8⟩ | ⟨c', A8, n8, c8, B8, m8, d8, hc', hcl', rfl, h8, hB8, hb8⟩)
          · have hbw := Hhb.out.trans ((H37.out.trans (hb8.mono H37.out.size)).mono Hhb.out.size)
            go_wp2_with fail
            go_ret
            exact ⟨rfl, hbw.alloc hbw.size _⟩
          · obtain ⟨g8, g9⟩ := makes_less hc hc' hcl (by omega) hcl'
            have hb38 := H37.out.trans (hb8.mono H37.out.size)
            have hbw := Hhb.out.trans (hb38.mono Hhb.out.size)
            have x8 := (hb8.block _ (block_lt x7)).trans x7
            have g10 : (kk : Int) < (nk : Int) - 1 := by omega
            have hsame := fun w9 (hb9 : Below w8.heap.size w8 w9) => same_cls hc hc' A3 n3 c3 B3 m3 d3 A8 n8 c8 B8 m8 d8 w9 ((h3.below hb38).below hb9) (IsG.below keepsLit (IsG.below keepsLit hB3 hb38) hb9) (h8.below hb9) (IsG.below keepsLit hB8 hb9)
            have hne : sameCl (numC c) (numC c') = false := by
              rw [← Bool.not_eq_true, sameCl_iff]
              exact g9
            rw [hne] at hsame
            have Hsame := Lib.hid hsame
            clear hsame hne g8 g9 hb38 Hsr hcl'
            obtain ⟨y0, y1, yl⟩ := open2 x8
            go_upto_region 13 with fail
            go_wp2_with fail
            refine (Hsame.out _ ((Below.refl _ _).alloc (Nat.le_refl _) _)).mono ?_
            rintro e w9 ⟨rfl, hb9⟩
            have hbz := (hbw.alloc hbw.size _).trans (hb9.mono (by have := hbw.size; simp; omega))
            go_wp2_with fail
            go_ret
            exact ⟨rfl, hbz⟩
    · rw [hg] at hgi
      have Hgi := Lib.hid hgi
      clear hgi hg hK hkl
      go_enter Try.func7, Try.ntmps7
      go_wp2_with fail
      refine Hhead.out.mono ?_
      rintro e w1 ⟨rfl, hb⟩
      go_wp2_with fail
      refine (Hgi.out _ hb).mono ?_
      rintro e w2 ⟨rfl, hb2⟩
      replace hb := hb.trans (hb2.mono hb.size)
      clear hb2
      go_wp2_with fail
      go_ret
      exact ⟨rfl, hb⟩
end Go.Proofs.Ytdeaeiolehglaaa
