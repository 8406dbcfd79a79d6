/- The walk of the law CodeRuns. -/
import Derived.Test.YtdeaeiolehglaaaLawT
import Derived.Test.YtdeaeiolehglaaaM7
set_option linter.unusedVariables false
set_option linter.unusedSimpArgs false
namespace Go.Proofs.Ytdeaeiolehglaaa
open Go.RowKit

set_option maxRecDepth 100000 in
set_option maxHeartbeats 8000000 in
theorem codeRuns_walk (A : Option Addr) (n c : Nat) (t : List C) (B : Option Addr) (m d : Nat) (b : List (Bool × List C)) (w : World) (h : IsC w A n c t) (hB : IsLs w B m d b) :
    Calls Try.prog 10 #[.agg #[.slice A n c, .slice B m d]] w (RetV w (.bool true)) := by
  have hal : Below w.heap.size w (w.alloc (.cells #[.slice A n c, .slice B m d] 25)) := (Below.refl _ _).alloc (Nat.le_refl _) _
  have hhead := head10_any (w.alloc (.cells #[.slice A n c, .slice B m d] 25))
  have Hhead := Lib.hid hhead
  have hx0 : (w.alloc (.cells #[.slice A n c, .slice B m d] 25)).heap[w.heap.size]? = some (.cells #[.slice A n c, .slice B m d] 25 (0, 0)) := alloc_at rfl
  have hgc := fun w1 (hb1 : Below w.heap.size w w1) => Great7_any (some ⟨w1.heap.size, 0, none⟩) 1 1 [(t, b)] (w1.alloc (.cells #[.slice A n c, .slice B m d] 25)) (isCl_one ((h.below hb1).below ((Below.refl _ _).alloc (Nat.le_refl _) _)) (IsG.below keepsLit (IsG.below keepsLit hB hb1) ((Below.refl _ _).alloc (Nat.le_refl _) _)) (alloc_at rfl))
  have Hx0 := Lib.hid hx0
  clear hhead hx0
  cases hg1 : greatC [(t, b)]
  · obtain ⟨q1, q2, q3⟩ := not_great hg1
    rw [hg1] at hgc
    have Hgc := Lib.hid hgc
    have hnl := h.len
    have hml := hB.len
    have hmy := fun w1 (hb1 : Below w.heap.size w w1) => rMay_any A n c t B m d b w1 (h.below hb1) (IsG.below keepsLit hB hb1) (by omega) (by omega) (fun x hx => by have := q3 x hx; omega)
    cases hm : mayB (t, b)
    · rw [hm] at hmy
      have Hmay := Lib.hid hmy
      clear hgc hmy hm hg1 hnl hml q1 q2 q3 h hB
      go_enter Try.func10, Try.ntmps10
      go_wp2_with fail
      refine Hhead.out.mono ?_
      rintro e w1 ⟨rfl, hb1⟩
      have hb := hal.trans (hb1.mono hal.size)
      have x1 := (hb1.block w.heap.size (by simp)).trans Hx0.out
      have xl1 := block_lt x1
      have hgc1 := Hgc.out w1 hb
      have Hgc1 := Lib.hid hgc1
      obtain ⟨y0, y1, yl⟩ := open2 x1
      clear hgc1
      go_wp2_with fail
      refine Hgc1.out.mono ?_
      rintro e w2 ⟨rfl, hb2⟩
      replace hb := (hb.alloc hb.size _).trans (hb2.mono (by simp; omega))
      have x2 := (hb2.block w.heap.size (by simp; omega)).trans ((alloc_past xl1).trans x1)
      have xl2 := block_lt x2
      clear y0 y1 yl x1 xl1 hb1 hb2 Hgc1
      obtain ⟨y0, y1, yl⟩ := open2 x2
      go_wp2_with fail
      refine (Hmay.out _ hb).mono ?_
      rintro e w3 ⟨rfl, hb3⟩
      replace hb := hb.trans (hb3.mono hb.size)
      have x3 := (hb3.block w.heap.size xl2).trans x2
      have xl3 := block_lt x3
      clear y0 y1 yl hb3 x2 xl2
      obtain ⟨y0, y1, yl⟩ := open2 x3
      go_wp2_with fail
      go_ret
      exact ⟨rfl, hb⟩
    · rw [hm] at hmy
      have Hmay := Lib.hid hmy
      obtain ⟨cl, hcl⟩ := mayB_cls hm
      have hcc := fun w1 (hb1 : Below w.heap.size w w1) => compile_yes cl A n c t B m d b w1 (h.below hb1) (IsG.below keepsLit hB hb1) hcl hm
      have hlenF := compF_len hcl
      have hruns := code_runs cl
      have Hcc := Lib.hid hcc
      have HlenF := Lib.hid hlenF
      have Hruns := Lib.hid hruns
      clear hgc hmy hm hg1 q1 q2 q3 h hB hlenF hcc hcl hnl hml hruns
      go_enter Try.func10, Try.ntmps10
      go_wp2_with fail
      refine Hhead.out.mono ?_
      rintro e w1 ⟨rfl, hb1⟩
      have hb := hal.trans (hb1.mono hal.size)
      have x1 := (hb1.block w.heap.size (by simp)).trans Hx0.out
      have xl1 := block_lt x1
      have hgc1 := Hgc.out w1 hb
      have Hgc1 := Lib.hid hgc1
      obtain ⟨y0, y1, yl⟩ := open2 x1
      clear hgc1
      go_wp2_with fail
      refine Hgc1.out.mono ?_
      rintro e w2 ⟨rfl, hb2⟩
      replace hb := (hb.alloc hb.size _).trans (hb2.mono (by simp; omega))
      have x2 := (hb2.block w.heap.size (by simp; omega)).trans ((alloc_past xl1).trans x1)
      have xl2 := block_lt x2
      clear y0 y1 yl x1 xl1 hb1 hb2 Hgc1
      obtain ⟨y0, y1, yl⟩ := open2 x2
      go_wp2_with fail
      refine (Hmay.out _ hb).mono ?_
      rintro e w3 ⟨rfl, hb3⟩
      replace hb := hb.trans (hb3.mono hb.size)
      have x3 := (hb3.block w.heap.size xl2).trans x2
      have xl3 := block_lt x3
      clear y0 y1 yl hb3 x2 xl2
      obtain ⟨y0, y1, yl⟩ := open2 x3
      go_wp2_with fail
      refine (Hcc.out _ hb).mono ?_
      rintro e w4 ⟨Aa, na, ca, rfl, hKa, hb4⟩
      replace hb := hb.trans (hb4.mono hb.size)
      clear y0 y1 yl hb4 x3 xl3
      obtain ⟨l, hl⟩ : ∃ l, compF cl = l := ⟨_, rfl⟩
      rw [hl] at hKa Hruns HlenF
      have Hll := Lib.hid hKa.len
      have hna : na ≤ 100000 := by have := Hll.out; have := HlenF.out; omega
      clear HlenF hl Hcc
      go_wp2_with fail
      go_loopw [6, 7, 8] (fun lf bd iv wr => ∃ (k : Nat) (left : Int) (body : Bool), k ≤ na ∧ lf = .int .i64 left ∧ bd = .bool body ∧ iv = .int .i64 k ∧ (0 ≤ left ∧ left ≤ 9223372036854775807) ∧ Hid (Run left body (l.drop k)) ∧ wr = w4) (fun _ _ iv _ => na - (intOf iv).toNat)
      case atStart => exact ⟨0, 0, false, Nat.zero_le _, rfl, rfl, rfl, ⟨by decide, by decide⟩, Hruns, by first | rfl | trivial⟩
      case round =>
        clear Hruns
        obtain ⟨k, left, body, hk, rfl, rfl, rfl, hleft, hrun, hwr⟩ := hrel
        try subst hwr
        by_cases hlt : k < na
        · obtain ⟨i, hik⟩ := hKa.get hlt
          have hdr := drop_get hik
          obtain ⟨b1, o1, rfl, hbb, hwf, h0, h1, h2, h3, h4, h5⟩ := hKa.at' hik
          have hp : (k : Int) < (na : Int) := by omega
          have hcap := hKa.cap_le
          have hr := hrun.out
          rw [hdr] at hr
          have hn64 := hwf.n
          unfold i64 at hn64
          clear hdr hik hwf hrun h1 h2 h3 h5
          have hk1 : k + 1 ≤ na := by omega
          rcases hr with ⟨g1, rfl, g2, g3⟩ | ⟨g1, rfl, g2, g3⟩ | ⟨rfl, g2, g3⟩ | ⟨rfl, g2, rfl, g4, g3⟩ | ⟨rfl, g2, g4, g3⟩
          · have G3 := Lib.hid g3
            clear g3
            rcases g2 with g2 | g2 | g2
            all_goals
              rw [g2] at h0
              clear g2
              go_wp2
              go_roundw
              case rel => exact ⟨k + 1, left - 1, false, hk1, by go_num, rfl, by go_num, ⟨by omega, by omega⟩, G3, trivial⟩
              case measure => simp [intOf]; omega
          · have G3 := Lib.hid g3
            clear g3
            rcases g2 with g2 | g2 | g2
            all_goals
              rw [g2] at h0
              clear g2
              go_wp2
              go_roundw
              case rel => exact ⟨k + 1, left - 1, true, hk1, by go_num, rfl, by go_num, ⟨by omega, by omega⟩, G3, trivial⟩
              case measure => simp [intOf]; omega
          · have G3 := Lib.hid g3
            clear g3
            rcases g2 with g2 | g2 | g2 | g2 | g2
            all_goals
              rw [g2] at h0
              clear g2
              go_wp2
              go_roundw
              case rel => exact ⟨k + 1, 0, body, hk1, rfl, rfl, by go_num, ⟨by omega, by omega⟩, G3, trivial⟩
              case measure => simp [intOf]; omega
          · have G3 := Lib.hid g3
            clear g3
            rw [g2] at h0
            clear g2
            go_wp2
            go_roundw
            case rel => exact ⟨k + 1, i.n, false, hk1, rfl, rfl, by go_num, ⟨by omega, by omega⟩, G3, trivial⟩
            case measure => simp [intOf]; omega
          · have G3 := Lib.hid g3
            clear g3
            rw [g2] at h0
            clear g2
            go_wp2
            go_roundw
            case rel => exact ⟨k + 1, i.n, true, hk1, rfl, rfl, by go_num, ⟨by omega, by omega⟩, G3, trivial⟩
            case measure => simp [intOf]; omega
        · have hr := hrun.out
          rw [List.drop_eq_nil_of_le (by have := Hll.out; omega)] at hr
          have hz : left = 0 := hr
          subst hz
          clear hrun hr
          go_wp2
          go_ret
          exact ⟨rfl, hb⟩
  · rw [hg1] at hgc
    have Hgc := Lib.hid hgc
    clear hgc hg1 h hB
    go_enter Try.func10, Try.ntmps10
    go_wp2_with fail
    refine Hhead.out.mono ?_
    rintro e w1 ⟨rfl, hb1⟩
    have hb := hal.trans (hb1.mono hal.size)
    have x1 := (hb1.block w.heap.size (by simp)).trans Hx0.out
    have xl1 := block_lt x1
    have hgc1 := Hgc.out w1 hb
    have Hgc1 := Lib.hid hgc1
    obtain ⟨y0, y1, yl⟩ := open2 x1
    clear hgc1
    go_wp2_with fail
    refine Hgc1.out.mono ?_
    rintro e w2 ⟨rfl, hb2⟩
    replace hb := (hb.alloc hb.size _).trans (hb2.mono (by simp; omega))
    have x2 := (hb2.block w.heap.size (by simp; omega)).trans ((alloc_past xl1).trans x1)
    have xl2 := block_lt x2
    clear y0 y1 yl x1 xl1 hb1 hb2 Hgc1
    obtain ⟨y0, y1, yl⟩ := open2 x2
    go_wp2_with fail
    go_ret
    exact ⟨rfl, hb⟩
end Go.Proofs.Ytdeaeiolehglaaa
