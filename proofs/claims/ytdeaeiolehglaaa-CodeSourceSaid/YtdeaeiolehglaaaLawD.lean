/- The walk of the law CodeSource. -/
import Derived.Test.YtdeaeiolehglaaaLawB
import Derived.Test.YtdeaeiolehglaaaSrcR
set_option linter.unusedVariables false
set_option linter.unusedSimpArgs false
namespace Go.Proofs.Ytdeaeiolehglaaa
open Go.RowKit

theorem rsource_any (A : Option Addr) (n cap : Nat) (l : List In) (w : World) (h : IsK w A n cap l) (hn : n ≤ 400) (hok : okRegs l) : Calls Try.prog 21 #[.slice A n cap] w (RetDoc w l) := by
  have hl := h.len
  obtain ⟨N, hN⟩ : ∃ N : Nat, regsF 0 l = N := ⟨(regsF 0 l).toNat, by have := (regsF_ge l 0).1; omega⟩
  rcases Nat.eq_zero_or_pos n with h0 | hpos
  · have hl0 : l = [] := List.eq_nil_of_length_eq_zero (by omega)
    refine rsource_no A n cap l w h hn hok N hN (fun c r hc he => ?_) fun e he => by rw [hl0] at he; simp at he
    obtain ⟨u, hu⟩ := comp_last (c := c)
    rw [he, hl0] at hu
    simp at hu
  · obtain ⟨e, he⟩ : ∃ e, l[n - 1]? = some e := ⟨_, List.getElem?_eq_getElem (by omega)⟩
    have he' : l[l.length - 1]? = some e := by rw [hl]; exact he
    by_cases hE : endD l N e
    · exact rsource_main A n cap l w h hn hok N hN e he hE
    · refine rsource_no A n cap l w h hn hok N hN (fun c r hc hcl => hE (code_doc hc hcl he' hN).1) fun e' h' => ?_
      rw [he] at h'
      cases h'
      exact hE
theorem same_none (w : World) : Calls Try.prog 22 #[.agg #[.slice none 0 0, .slice none 0 0], .agg #[.slice none 0 0, .slice none 0 0]] w (RetV w (.bool true)) := by
  have h := SameClause_any none 0 0 [] none 0 0 [] none 0 0 [] none 0 0 [] w (IsC.nil _ _ _ (by simp [maxLen])) (IsG.nil (by simp [maxLen])) (IsC.nil _ _ _ (by simp [maxLen])) (IsG.nil (by simp [maxLen])) (by omega) (by omega) (by simp) (by simp)
  rw [show sameCl (([] : List C), ([] : List (Bool × List C))) ([], []) = true from (sameCl_iff _ _).2 rfl] at h
  exact h
set_option maxRecDepth 100000 in
set_option maxHeartbeats 8000000 in
theorem codeSource_walk (K : Option Addr) (nk ck : Nat) (l : List In) (w : World) (hK : IsK w K nk ck l) :
    Calls Try.prog 4 #[.slice K nk ck] w (RetV w (.bool true)) := by
  have Hhead := Lib.hid (head10_any w)
  have hgi := fun w1 (hb1 : Below w.heap.size w w1) => great10_any K nk ck l w1 (IsG.below keepsIn hK hb1)
  by_cases hlong : 400 < nk
  · have hl1 : (400 : Int) < (nk : Int) := by omega
    clear hgi hK
    go_enter Try.func4, Try.ntmps4
    go_wp2_with fail
    refine Hhead.out.mono ?_
    rintro e w1 ⟨rfl, hb⟩
    go_wp2_with fail
    go_ret
    exact ⟨rfl, hb⟩
  · have hl1 : ¬ (400 : Int) < (nk : Int) := by omega
    cases hg : greatI l
    · rw [hg] at hgi
      have Hgi := Lib.hid hgi
      obtain ⟨_, hok⟩ := not_greatI hg
      have hsrc := fun w1 (hb1 : Below w.heap.size w w1) => source_gen K nk ck l w1 (IsG.below keepsIn hK hb1) (by omega)
      have hdoc := fun w1 (hb1 : Below w.heap.size w w1) => rsource_any K nk ck l w1 (IsG.below keepsIn hK hb1) (by omega) hok
      have Hsrc := Lib.hid hsrc
      have Hdoc := Lib.hid hdoc
      clear hgi hg hsrc hdoc hok hK
      go_enter Try.func4, Try.ntmps4
      go_wp2_with fail
      refine Hhead.out.mono ?_
      rintro e w1 ⟨rfl, hb⟩
      go_wp2_with fail
      refine (Hgi.out _ hb).mono ?_
      rintro e w2 ⟨rfl, hb2⟩
      replace hb := hb.trans (hb2.mono hb.size)
      clear hb2
      go_wp2_with fail
      refine (Hsrc.out _ hb).mono ?_
      rintro e w3 (⟨rfl, hno, hb3⟩ | ⟨c, A3, n3, c3, B3, m3, d3, hc, hcl, rfl, h3, hB3, hb3⟩)
      · replace hb := hb.trans (hb3.mono hb.size)
        clear hb3 Hsrc Hgi Hhead
        go_upto_region 5 with fail
        refine on_world (fun X => Below w3.heap.size w3 X ∧ X.heap[w3.heap.size]? = some (.cells #[.slice none 0 0, .slice none 0 0] 25 (0, 0))) ⟨(Below.refl _ _).alloc (Nat.le_refl _) _, alloc_at rfl⟩ ?_
        rintro X ⟨hbX, x0⟩
        have hbw := hb.trans (hbX.mono hb.size)
        go_wp2_with fail
        refine (Hdoc.out _ hbw).mono ?_
        rintro e w4 (⟨rfl, _, hb4⟩ | ⟨c', A4, n4, c4, B4, m4, d4, hc', hcl', _⟩)
        · have x4 := (hb4.block _ (block_lt x0)).trans x0
          have hbw4 := hbw.trans (hb4.mono hbw.size)
          obtain ⟨y0, y1, yl⟩ := open2 x4
          clear hb4 x0 hbX
          go_wp2_with fail
          refine (same_none _).mono ?_
          rintro e w5 ⟨rfl, hb5⟩
          have hbw5 := (hbw4.alloc hbw4.size _).trans (hb5.mono (by have := hbw4.size; simp; omega))
          go_wp2_with fail
          go_ret
          exact ⟨rfl, hbw5⟩
        · exact absurd hcl' (hno c' _ hc')
      · replace hb := hb.trans (hb3.mono hb.size)
        clear hb3 Hsrc Hgi Hhead
        go_upto_region 5 with fail
        refine on_world (fun X => Below w3.heap.size w3 X ∧ X.heap[w3.heap.size]? = some (.cells #[.slice A3 n3 c3, .slice B3 m3 d3] 25 (0, 0))) ⟨(Below.refl _ _).alloc (Nat.le_refl _) _, alloc_at rfl⟩ ?_
        rintro X ⟨hbX, x0⟩
        have hbw := hb.trans (hbX.mono hb.size)
        go_wp2_with fail
        refine (Hdoc.out _ hbw).mono ?_
        rintro e w4 (⟨rfl, hno, hb4⟩ | ⟨c', A4, n4, c4, B4, m4, d4, hc', hcl', rfl, h4, hB4, hb4⟩)
        · exact absurd hcl (hno c _ hc)
        · have x4 := (hb4.block _ (block_lt x0)).trans x0
          have hbw4 := hbw.trans (hb4.mono hbw.size)
          have hb34 := hbX.trans (hb4.mono hbX.size)
          have heq : numC c = numC c' := (code_alike hc hc').1 (hcl.trans hcl'.symm)
          have hsame := fun w9 (hb9 : Below w4.heap.size w4 w9) => same_cls hc hc' A3 n3 c3 B3 m3 d3 A4 n4 c4 B4 m4 d4 w9 ((h3.below hb34).below hb9) (IsG.below keepsLit (IsG.below keepsLit hB3 hb34) hb9) (h4.below hb9) (IsG.below keepsLit hB4 hb9)
          rw [(sameCl_iff _ _).2 heq] at hsame
          have Hsame := Lib.hid hsame
          obtain ⟨y0, y1, yl⟩ := open2 x4
          clear hsame heq hb34 hb4 x0 hbX hcl hcl'
          go_wp2_with fail
          refine (Hsame.out _ ((Below.refl _ _).alloc (Nat.le_refl _) _)).mono ?_
          rintro e w5 ⟨rfl, hb5⟩
          have hbw5 := (hbw4.alloc hbw4.size _).trans (hb5.mono (by have := hbw4.size; simp; omega))
          go_wp2_with fail
          go_ret
          exact ⟨rfl, hbw5⟩
    · rw [hg] at hgi
      have Hgi := Lib.hid hgi
      clear hgi hg hK
      go_enter Try.func4, Try.ntmps4
      go_wp2_with fail
      refine Hhead.out.mono ?_
      rintro e w1 ⟨rfl, hb⟩
      go_wp2_with fail
      refine (Hgi.out _ hb).mono ?_
      rintro e w2 ⟨rfl, hb2⟩
      replace hb := hb.trans (hb2.mono hb.size)
      clear hb2
      go_wp2_with fail
      go_ret
      exact ⟨rfl, hb⟩
end Go.Proofs.Ytdeaeiolehglaaa
