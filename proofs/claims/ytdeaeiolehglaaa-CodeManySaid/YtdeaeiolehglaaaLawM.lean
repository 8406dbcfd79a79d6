/- The walk of the law CodeMany. -/
import Derived.Test.YtdeaeiolehglaaaLawT
import Derived.Test.YtdeaeiolehglaaaM7
import Derived.Test.YtdeaeiolehglaaaNum1
set_option linter.unusedVariables false
set_option linter.unusedSimpArgs false
namespace Go.Proofs.Ytdeaeiolehglaaa
open Go.RowKit

theorem funsC_le : ∀ l : List C, funsC l ≤ l.length
  | [] => Nat.le_refl _
  | c :: l => by
    have := funsC_le l
    simp only [funsC, List.length_cons]
    split <;> omega
set_option maxHeartbeats 400000 in
theorem funs_any (A : Option Addr) (n cap : Nat) (t : List C) (w : World) (h : IsC w A n cap t) (hn : n ≤ 1000000) : Calls Try.prog 26 #[.slice A n cap] w (fun e w' => e = .returned (.int .i64 (funsC t)) ∧ w' = w) := by
  have hl := h.len
  have Hl := Lib.hid hl
  clear hl
  go_enter Try.func26, Try.ntmps26
  go_wp2
  go_loopw [3, 4] (fun cv iv wr => ∃ (k : Nat) (q : Nat), k ≤ n ∧ iv = .int .i64 k ∧ cv = .int .i64 q ∧ q ≤ k ∧ Hid (q + funsC (t.drop k) = funsC t) ∧ wr = w) (fun _ iv _ => n - (intOf iv).toNat)
  case atStart => exact ⟨0, 0, Nat.zero_le _, rfl, rfl, Nat.le_refl _, Lib.hid (by simp), by first | rfl | trivial⟩
  case round =>
    obtain ⟨k, q, hk, rfl, rfl, hq, hres, hwr⟩ := hrel
    try subst hwr
    by_cases hlt : k < n
    · obtain ⟨c, hc⟩ : ∃ c, t[k]? = some c := ⟨_, List.getElem?_eq_getElem (by have := Hl.out; omega)⟩
      have hd := drop_get hc
      obtain ⟨b, off, rfl, hbb, hwf, h0, h1, h2⟩ := h.at_ hc
      have hp : (k : Int) < (n : Int) := by omega
      have hr := hres.out
      rw [hd, funsC] at hr
      have Hr := Lib.hid hr
      clear hr hc hd h1 h2 hres
      by_cases hk3 : c.kind = 3
      · rw [hk3] at h0
        go_wp2
        go_roundw
        case rel => exact ⟨k + 1, q + 1, by omega, by go_num, by go_num, by omega, by have := Hr.out; rw [if_pos hk3] at this; exact Lib.hid (by omega), trivial⟩
        case measure => simp [intOf]; omega
      · have cb3 : (c.kind == 3) = false := by simp [hk3]
        go_wp2
        go_roundw
        case rel => exact ⟨k + 1, q, by omega, by go_num, rfl, by omega, by have := Hr.out; rw [if_neg hk3] at this; exact Lib.hid (by omega), trivial⟩
        case measure => simp [intOf]; omega
    · have hr := hres.out
      rw [List.drop_eq_nil_of_le (by have := Hl.out; omega), funsC, Nat.add_zero] at hr
      subst hr
      clear hres
      go_wp2
      go_ret
      exact ⟨rfl, rfl⟩

set_option maxRecDepth 100000 in
set_option maxHeartbeats 8000000 in
theorem codeMany_walk (A : Option Addr) (n c : Nat) (t : List C) (B : Option Addr) (m d : Nat) (b : List (Bool × List C)) (w : World) (h : IsC w A n c t) (hB : IsLs w B m d b) :
    Calls Try.prog 9 #[.agg #[.slice A n c, .slice B m d]] w (RetV w (.bool true)) := by
  have hal : Below w.heap.size w (w.alloc (.cells #[.slice A n c, .slice B m d] 25)) := (Below.refl _ _).alloc (Nat.le_refl _) _
  have hhead := head10_any (w.alloc (.cells #[.slice A n c, .slice B m d] 25))
  have Hhead := Lib.hid hhead
  have hx0 : (w.alloc (.cells #[.slice A n c, .slice B m d] 25)).heap[w.heap.size]? = some (.cells #[.slice A n c, .slice B m d] 25 (0, 0)) := alloc_at rfl
  have hgc := fun w1 (hb1 : Below w.heap.size w w1) => Great7_any (some ⟨w1.heap.size, 0, none⟩) 1 1 [(t, b)] (w1.alloc (.cells #[.slice A n c, .slice B m d] 25)) (isCl_one ((h.below hb1).below ((Below.refl _ _).alloc (Nat.le_refl _) _)) (IsG.below keepsLit (IsG.below keepsLit hB hb1) ((Below.refl _ _).alloc (Nat.le_refl _) _)) (alloc_at rfl))
  have Hx0 := Lib.hid hx0
  clear hhead hx0
  cases hg1 : greatC [(t, b)]
  · obtain ⟨q1, q2, q3⟩ := not_great hg1
    rw [hg1] at hgc
    have Hgc := Lib.hid hgc
    have hnl := h.len
    have hml := hB.len
    have hmy := fun w1 (hb1 : Below w.heap.size w w1) => rMay_any A n c t B m d b w1 (h.below hb1) (IsG.below keepsLit hB hb1) (by omega) (by omega) (fun x hx => by have := q3 x hx; omega)
    cases hm : mayB (t, b)
    · rw [hm] at hmy
      have Hmay := Lib.hid hmy
      clear hgc hmy hm hg1 hnl hml q1 q2 q3 h hB
      go_enter Try.func9, Try.ntmps9
      go_wp2_with fail
      refine Hhead.out.mono ?_
      rintro e w1 ⟨rfl, hb1⟩
      have hb := hal.trans (hb1.mono hal.size)
      have x1 := (hb1.block w.heap.size (by simp)).trans Hx0.out
      have xl1 := block_lt x1
      have hgc1 := Hgc.out w1 hb
      have Hgc1 := Lib.hid hgc1
      obtain ⟨y0, y1, yl⟩ := open2 x1
      clear hgc1
      go_wp2_with fail
      refine Hgc1.out.mono ?_
      rintro e w2 ⟨rfl, hb2⟩
      replace hb := (hb.alloc hb.size _).trans (hb2.mono (by simp; omega))
      have x2 := (hb2.block w.heap.size (by simp; omega)).trans ((alloc_past xl1).trans x1)
      have xl2 := block_lt x2
      clear y0 y1 yl x1 xl1 hb1 hb2 Hgc1
      obtain ⟨y0, y1, yl⟩ := open2 x2
      go_wp2_with fail
      refine (Hmay.out _ hb).mono ?_
      rintro e w3 ⟨rfl, hb3⟩
      replace hb := hb.trans (hb3.mono hb.size)
      have x3 := (hb3.block w.heap.size xl2).trans x2
      have xl3 := block_lt x3
      clear y0 y1 yl hb3 x2 xl2
      obtain ⟨y0, y1, yl⟩ := open2 x3
      go_wp2_with fail
      go_ret
      exact ⟨rfl, hb⟩
    · rw [hm] at hmy
      have Hmay := Lib.hid hmy
      obtain ⟨cl, hcl⟩ := mayB_cls hm
      have hcc := fun w1 (hb1 : Below w.heap.size w w1) => compile_yes cl A n c t B m d b w1 (h.below hb1) (IsG.below keepsLit hB hb1) hcl hm
      have hlenF := compF_len hcl
      have hmany := code_many cl fun l hl => (hcl.bok l hl).2.2
      have hcalls := code_calls cl
      obtain ⟨ul, hul, _⟩ := code_no13 cl
      have hfu := fun w1 (hb1 : Below w.heap.size w w1) => funs_any A n c t w1 (h.below hb1) (by omega)
      have hhf : cl.head.flat = t := hcl.head
      have hpar := fun w1 (hb1 : Below w.heap.size w w1) => rParts_w w A n c t w1 h hb1 (by rw [← hhf]; exact right_flat hcl.hok.1 hcl.hok.2.1)
      rw [← hhf, parts_flat hcl.hok.1 hcl.hok.2.1] at hpar
      obtain ⟨hd, hhd⟩ : ∃ hd, cl.head = hd := ⟨_, rfl⟩
      have hF0 : funsC t = 1 + funsC (flats hd.args) := by
        rw [← hhf, hhd, funs_flat, isF, if_pos]
        rw [← hhd]; exact hcl.hok.2.2
      have hn0 : n = 1 + sizes hd.args := by rw [← hnl, ← hhf, flat_size, hhd, size_args]
      obtain ⟨b0, off0, hA, hb0, e0, e1, e2, hnp⟩ := (hhf ▸ h : IsC w A n c cl.head.flat).tm
      rw [hhd] at e0 e1 e2 hpar hmany hul
      have hm8 : m ≤ 8 := by have := hcl.len; have := congrArg List.length hcl.body; simp at this; omega
      have hfle := funsC_le t
      have hn300 : n ≤ 300 := by omega
      have Hcc := Lib.hid hcc
      have HlenF := Lib.hid hlenF
      have Hmany := Lib.hid hmany
      have Hcalls := Lib.hid hcalls
      have Hul := Lib.hid hul
      have Hfu := Lib.hid hfu
      have Hpar := Lib.hid hpar
      have Hbody := Lib.hid hcl.body
      have Hbok := Lib.hid hcl.bok
      have Hml := Lib.hid hml
      have HB := Lib.hid hB
      obtain ⟨F, hF⟩ : ∃ F, funsC t = F := ⟨_, rfl⟩
      rw [hF] at Hfu hF0 hfle
      have HF0 := Lib.hid hF0
      have Hn0 := Lib.hid hn0
      have hF300 : F ≤ 300 := by omega
      have hn1 : 1 ≤ n := by omega
      have hn6 := args_len hcl.hok.1
      rw [hhd] at hn6
      clear hgc hmy hm hg1 q1 q2 q3 h hB hlenF hcc hcl hnl hml hmany hcalls hul hfu hpar hhd hF hF0 hn0 hfle e0
      subst hA
      go_enter Try.func9, Try.ntmps9
      go_wp2_with fail
      refine Hhead.out.mono ?_
      rintro e w1 ⟨rfl, hb1⟩
      have hb := hal.trans (hb1.mono hal.size)
      have x1 := (hb1.block w.heap.size (by simp)).trans Hx0.out
      have xl1 := block_lt x1
      have hgc1 := Hgc.out w1 hb
      have Hgc1 := Lib.hid hgc1
      obtain ⟨y0, y1, yl⟩ := open2 x1
      clear hgc1
      go_wp2_with fail
      refine Hgc1.out.mono ?_
      rintro e w2 ⟨rfl, hb2⟩
      replace hb := (hb.alloc hb.size _).trans (hb2.mono (by simp; omega))
      have x2 := (hb2.block w.heap.size (by simp; omega)).trans ((alloc_past xl1).trans x1)
      have xl2 := block_lt x2
      clear y0 y1 yl x1 xl1 hb1 hb2 Hgc1
      obtain ⟨y0, y1, yl⟩ := open2 x2
      go_wp2_with fail
      refine (Hmay.out _ hb).mono ?_
      rintro e w3 ⟨rfl, hb3⟩
      replace hb := hb.trans (hb3.mono hb.size)
      have x3 := (hb3.block w.heap.size xl2).trans x2
      have xl3 := block_lt x3
      clear y0 y1 yl hb3 x2 xl2
      obtain ⟨y0, y1, yl⟩ := open2 x3
      go_wp2_with fail
      refine (Hcc.out _ hb).mono ?_
      rintro e w4 ⟨Aa, na, ca, rfl, hKa, hb4⟩
      replace hb := hb.trans (hb4.mono hb.size)
      have x4 := (hb4.block w.heap.size xl3).trans x3
      have xl4 := block_lt x4
      clear y0 y1 yl hb4 x3 xl3
      obtain ⟨y0, y1, yl⟩ := open2 x4
      obtain ⟨l, hl⟩ : ∃ l, compF cl = l := ⟨_, rfl⟩
      rw [hl] at hKa HlenF Hmany Hcalls Hul
      have Hll := Lib.hid hKa.len
      have hna : na ≤ 100000 := by have := Hll.out; have := HlenF.out; omega
      clear HlenF hl Hcc
      go_wp2_with fail
      go_quiet ((go_at_call 26; go_must (refine (Hfu.out _ (below_drewN hb _)).mono ?_); rintro e9 w9 ⟨he, rfl⟩; exact ⟨he, _, rfl⟩))
      refine on_world (fun X => Below w.heap.size w X ∧ X.heap[w.heap.size]? = some (.cells #[.slice (some ⟨b0, off0, none⟩) n c, .slice B m d] 25 (0, 0)) ∧ IsK X Aa na ca l) ⟨below_drewN hb _, x4, IsG.below keepsIn hKa (below_drewN (Below.refl _ _) _)⟩ ?_
      rintro X ⟨hbX, x5, hKX⟩
      clear hb x4 hKa y0 y1 yl xl4
      obtain ⟨y0, y1, yl⟩ := open2 x5
      go_wp2_with (first
        | (go_at_call 27; go_must (refine (Hpar.out _ hbX).mono ?_); rintro e w6 ⟨Ap, np, cp, vs, rfl, hlp, hop, hrows, hb6⟩))
      have hbX6 : Below w.heap.size w w6 := hbX.trans (hb6.mono hbX.size)
      have x6 := (hb6.block w.heap.size yl).trans x5
      have hK6 : IsK w6 Aa na ca l := IsG.below keepsIn hKX hb6
      have hsp := Sl.own hop (by omega)
      rw [List.length_map] at hlp
      have Hlp := Lib.hid hlp
      have hnp6 : np ≤ 6 := by omega
      have hW6 : ∀ wr, Below w6.heap.size w6 wr → Below w.heap.size w wr := fun wr hbr => hbX6.trans (hbr.mono hbX6.size)
      have HW6 := Lib.hid hW6
      obtain ⟨P0, hP0⟩ : ∃ P0, nF' hd.args = P0 := ⟨_, rfl⟩
      obtain ⟨S0, hS0⟩ : ∃ S0, sizes hd.args = S0 := ⟨_, rfl⟩
      obtain ⟨U0, hU0⟩ : ∃ U0, funsC (flats hd.args) = U0 := ⟨_, rfl⟩
      have hm1 := Hmany.out
      have hm2 := HF0.out
      have hm3 := Hn0.out
      rw [hP0, hS0, hU0, Hll.out] at hm1
      rw [hU0] at hm2
      rw [hS0] at hm3
      have hst1 : ((n : Int) - 1 + (F : Int)) + (P0 : Int) = ((n : Int) - 1 + (F : Int)) + (nF' (hd.args.drop 0) : Int) := by rw [List.drop_zero, hP0]
      have Hst1 := Lib.hid hst1
      have hP6 : P0 ≤ 6 := by
        have : ∀ ts : List Tm, nF' ts ≤ ts.length := by
          intro ts
          induction ts with
          | nil => simp [nF']
          | cons t ts ih => rw [nF', List.length_cons]; have : isF t ≤ 1 := (by unfold isF; split <;> omega); omega
        have := this hd.args
        omega
      have hm4 : ((n : Int) - 1 + (F : Int)) - (P0 : Int) + (lwtC cl.body : Int) = (na : Int) := by omega
      have Hm4 := Lib.hid hm4
      clear hb6 hop hlp hKX x5 y0 y1 yl hbX hm1 hm2 hm3 hP0 hS0 hU0 hst1 hm4 hW6
      obtain ⟨wb, hwb⟩ : ∃ wb : Int, wb = (n : Int) - 1 + (F : Int) := ⟨_, rfl⟩
      rw [← hwb] at Hst1 Hm4 ⊢
      have hwb3 : 0 ≤ wb ∧ wb ≤ 1000 := by omega
      clear hwb
      go_loopw [6, 8] (fun wv iv wr => ∃ (k : Nat) (q : Int), k ≤ np ∧ wv = .int .i64 q ∧ iv = .int .i64 k ∧ (-100 ≤ q ∧ q ≤ 1000) ∧ Hid (q + (P0 : Int) = wb + (nF' (hd.args.drop k) : Int)) ∧ wr = w6) (fun _ iv _ => np - (intOf iv).toNat)
      case atStart => exact ⟨0, wb, Nat.zero_le _, rfl, rfl, by omega, Hst1, by first | rfl | trivial⟩
      case round =>
        clear Hst1
        obtain ⟨k, q, hk, rfl, rfl, hqb, hq, hwr⟩ := hrel
        try subst hwr
        by_cases hlt : k < np
        · obtain ⟨t2, ht2⟩ : ∃ t2, hd.args[k]? = some t2 := ⟨_, List.getElem?_eq_getElem (by have := Hlp.out; omega)⟩
          have hdr := drop_get ht2
          obtain ⟨A5, n5, c5, hv5, hc5⟩ := hrows.2 k t2.flat (by rw [List.getElem?_map, ht2]; rfl)
          obtain ⟨bp, op, rfl, hbp, hcp⟩ := hsp.cells (by omega)
          have hpc := hcp k _ hv5
          obtain ⟨b5, off5, rfl, hb5, k0, _, _, hn5⟩ := hc5.tm
          obtain ⟨hc0, _⟩ := bcell hbX6
          have kk0 := (hc0 b5 off5 hb5).trans k0
          have hb56 : b5 < wr.heap.size := Nat.lt_of_lt_of_le hb5 hbX6.size
          have hq1 := hq.out
          rw [hdr, nF'] at hq1
          have Hq1 := Lib.hid hq1
          have hpk : (k : Int) < (np : Int) := by omega
          clear ht2 hdr hv5 hc5 hcp hc0 k0 hq1 hq
          by_cases hk3 : t2.c0.kind = 3
          · rw [hk3] at kk0
            have Hk3 := Lib.hid hk3
            clear hk3
            go_wp2
            go_roundw
            case rel => exact ⟨k + 1, q - 1, by omega, by go_num, by go_num, by have := Hq1.out; unfold isF at this; rw [if_pos Hk3.out] at this; omega, by have := Hq1.out; unfold isF at this; rw [if_pos Hk3.out] at this; exact Lib.hid (by omega), trivial⟩
            case measure => simp [intOf]; omega
          · have cb3 : (t2.c0.kind == 3) = false := by simp [hk3]
            have Hk3 := Lib.hid hk3
            clear hk3
            go_wp2
            go_roundw
            case rel => exact ⟨k + 1, q, by omega, rfl, by go_num, hqb, by have := Hq1.out; unfold isF at this; rw [if_neg Hk3.out] at this; exact Lib.hid (by omega), trivial⟩
            case measure => simp [intOf]; omega
        · have hq1 := hq.out
          rw [List.drop_eq_nil_of_le (by have := Hlp.out; omega), nF'] at hq1
          have hq2 : q + (lwtC (cl.body.drop 0) : Int) = (na : Int) := by rw [List.drop_zero]; have := Hm4.out; omega
          have Hq2 := Lib.hid hq2
          obtain ⟨y0, y1, yl⟩ := open2 x6
          have hqb2 : -100 ≤ q ∧ q ≤ 100000 := by omega
          obtain ⟨w6, hw6⟩ : ∃ w6, w6 = wr := ⟨_, rfl⟩
          subst hw6
          have hmc : m ≤ d := HB.out.cap_le.1
          clear hq1 hq hq2 hqb x6 Hm4
          go_wp2
          go_loopw [6, 10] (fun wv iv wq => ∃ (k : Nat) (q : Int), k ≤ m ∧ wv = .int .i64 q ∧ iv = .int .i64 k ∧ (-100 ≤ q ∧ q ≤ 100000) ∧ Hid (q + (lwtC (cl.body.drop k) : Int) = (na : Int)) ∧ ∃ d, wq = w6.drewN d) (fun _ iv _ => m - (intOf iv).toNat)
          case atStart => exact ⟨0, q, Nat.zero_le _, rfl, rfl, hqb2, Hq2, 0, rfl⟩
          case round =>
            clear Hq2
            obtain ⟨k, q, hk, rfl, rfl, hqb, hq, dd, rfl⟩ := hrel
            have hBw := IsG.below keepsLit HB.out hbX6
            by_cases hlt : k < m
            · obtain ⟨x, hxk⟩ := hBw.get hlt
              obtain ⟨lt, hlk⟩ : ∃ lt, cl.body[k]? = some lt := ⟨_, List.getElem?_eq_getElem (by have h1 := Hbody.out; have h2 := Hml.out; have := congrArg List.length h1; simp at this; omega)⟩
              have hxl : x = (lt.neg, lt.t.flat) := by
                have h1 := Hbody.out
                rw [← h1, List.getElem?_map, hlk] at hxk
                exact (Option.some.inj hxk).symm
              subst hxl
              obtain ⟨b1, o1, A1, n1, c1, rfl, hb1, i1, u0, u1⟩ := lits_at hBw hxk
              have hdr := drop_get hlk
              have hlok := Hbok.out lt (List.mem_of_getElem? hlk)
              have hsz := hlok.2.1
              have hl1 := i1.len
              simp only at i1 hl1 u0
              rw [flat_size, size_args] at hl1
              have hq1 := hq.out
              rw [hdr, lwtC] at hq1
              have hsl : sizes lt.t.args ≤ 200 := by have := size_args lt.t; omega
              have hn1b : n1 ≤ 300 := by omega
              have hfun := fun q => funs_any (some ⟨b1, o1, none⟩) 0 0 [] (w6.drewN q)
              have hfl := funsC_le lt.t.flat
              have hfu := fun q => funs_any A1 n1 c1 lt.t.flat (w6.drewN q) (i1.drewN q) (by omega)
              obtain ⟨F1, hF1⟩ : ∃ F1, funsC lt.t.flat = F1 := ⟨_, rfl⟩
              obtain ⟨S1, hS1⟩ : ∃ S1, sizes lt.t.args = S1 := ⟨_, rfl⟩
              rw [i1.len] at hfl
              rw [hF1] at hq1 hfu hfl
              rw [hS1] at hq1 hl1 hsl
              have Hfu := Lib.hid hfu
              have Hq1 := Lib.hid hq1
              have Hl1 := Lib.hid hl1
              have hn1p : 1 ≤ n1 := by omega
              have hp : (k : Int) < (m : Int) := by omega
              clear hxk hlk hdr hlok hfun hfu hq1 hq hF1 hS1 hBw hl1
              go_upto_region 16 with fail
              go_quiet ((go_at_call 26; go_must (refine (Hfu.out _).mono ?_); rintro e9 w9 ⟨he, rfl⟩; exact ⟨he, _, rfl⟩))
              go_wp2_with fail
              go_roundw
              case rel => exact ⟨k + 1, q + ((n1 : Int) - 1 + (F1 : Int) + 1), by omega, by go_num, by go_num, by have := Hq1.out; have := Hl1.out; omega, by have := Hq1.out; have := Hl1.out; exact Lib.hid (by omega), _, rfl⟩
              case measure => simp [intOf]; omega
            · have hq1 := hq.out
              rw [List.drop_eq_nil_of_le (by have h1 := Hbody.out; have h2 := Hml.out; have := congrArg List.length h1; simp at this; omega), lwtC] at hq1
              have hqn : q = (na : Int) := by omega
              subst hqn
              have hcl0 : callsOf (l.drop 0) = (cl.body.drop 0).map (·.neg) := by rw [List.drop_zero, List.drop_zero]; exact Hcalls.out
              have Hcl0 := Lib.hid hcl0
              have hblen : cl.body.length = m := by have h1 := Hbody.out; have h2 := Hml.out; have := congrArg List.length h1; simp at this; omega
              have Hblen := Lib.hid hblen
              obtain ⟨nu, hnu⟩ : ∃ nu, na = nu + 1 := ⟨na - 1, by have h1 := Hll.out; rw [Hul.out, List.length_append] at h1; simp at h1; omega⟩
              clear hq hq1 hqb hcl0 hblen Hcalls
              go_wp2
              go_loopw [9, 11] (fun cv iv wq => ∃ (j i : Nat), j ≤ m ∧ i ≤ na ∧ cv = .int .i64 j ∧ iv = .int .i64 i ∧ Hid (callsOf (l.drop i) = (cl.body.drop j).map (·.neg)) ∧ ∃ d, wq = w6.drewN d) (fun _ iv _ => na - (intOf iv).toNat)
              case atStart => exact ⟨0, 0, Nat.zero_le _, Nat.zero_le _, rfl, rfl, Hcl0, dd, rfl⟩
              case round =>
                clear Hcl0
                obtain ⟨j, i, hj, hi, rfl, rfl, hcs, dd2, rfl⟩ := hrel
                by_cases hlt : i < na
                · obtain ⟨ins, hik⟩ := hK6.get hlt
                  have hdr := drop_get hik
                  obtain ⟨b1, o1, rfl, hbb, hwf, h0, h1, h2, h3, h4, h5⟩ := hK6.at' hik
                  have hp : (i : Int) < (na : Int) := by omega
                  have hcap := hK6.cap_le
                  have hc1 := hcs.out
                  rw [hdr] at hc1
                  by_cases ho : ins.op = 12
                  · have hcc : callsOf (ins :: l.drop (i + 1)) = ins.neg :: callsOf (l.drop (i + 1)) := by simp [callsOf, ho]
                    rw [hcc] at hc1
                    have hjm : j < m := by
                      rcases Nat.lt_or_ge j m with h | h
                      · exact h
                      · have hz : cl.body.drop j = [] := List.drop_eq_nil_of_le (by rw [Hblen.out]; exact h)
                        rw [hz] at hc1; cases hc1
                    obtain ⟨lt, hlk⟩ : ∃ lt, cl.body[j]? = some lt := ⟨_, List.getElem?_eq_getElem (by rw [Hblen.out]; exact hjm)⟩
                    rw [drop_get hlk, List.map_cons] at hc1
                    injection hc1 with hn1 hn2
                    have hxk : b[j]? = some (lt.neg, lt.t.flat) := by rw [← Hbody.out, List.getElem?_map, hlk]; rfl
                    obtain ⟨b2, o2, A2, n2, c2, rfl, hb2, i2, u0, u1⟩ := lits_at hBw hxk
                    simp only at u0
                    rw [← hn1] at u0
                    rw [ho] at h0
                    have Hn2 := Lib.hid hn2
                    have hjm' : decide ((m : Int) ≤ (j : Int)) = false := by simp; omega
                    have hjm3 : decide (m ≤ j) = false := by simp; omega
                    have hjm4 : ¬ m ≤ j := by omega
                    have hjm2 : (j : Int) < (m : Int) := by omega
                    obtain ⟨ng, hng⟩ : ∃ ng, ins.neg = ng := ⟨_, rfl⟩
                    rw [hng] at u0 h5
                    clear hik hdr hwf hcs hcc hlk hn1 hn2 hxk i2 hng ho h1 h2 h3 h4 hK6 hBw
                    cases ng
                    all_goals
                      go_wp2
                      go_quiet (fail)
                      go_wp2
                      go_roundw
                      case rel => exact ⟨j + 1, i + 1, by omega, by omega, by go_num, by go_num, Hn2, _, rfl⟩
                      case measure => simp [intOf]; omega
                  · have hcc : callsOf (ins :: l.drop (i + 1)) = callsOf (l.drop (i + 1)) := by simp [callsOf, ho]
                    rw [hcc] at hc1
                    have Hc1 := Lib.hid hc1
                    have cb : (ins.op == 12) = false := by simp [ho]
                    clear hik hdr hwf hcs hcc hc1 ho h1 h2 h3 h4 hK6 hBw
                    go_wp2
                    go_roundw
                    case rel => exact ⟨j, i + 1, hj, by omega, rfl, by go_num, Hc1, _, rfl⟩
                    case measure => simp [intOf]; omega
                · have hc1 := hcs.out
                  rw [List.drop_eq_nil_of_le (by have := Hll.out; omega)] at hc1
                  have hjm : j = m := by
                    rcases Nat.lt_or_ge j m with h | h
                    · obtain ⟨lt, hlk⟩ : ∃ lt, cl.body[j]? = some lt := ⟨_, List.getElem?_eq_getElem (by rw [Hblen.out]; exact h)⟩
                      rw [drop_get hlk] at hc1
                      simp [callsOf] at hc1
                    · omega
                  subst hjm
                  subst hnu
                  obtain ⟨ba, oa, rfl, hba1, hwfa, r0, r1, r2, r3, r4, r5⟩ := IsK.at' hK6 (k := nu) (i := lastI hd) (by
                    have h1 := Hll.out
                    rw [Hul.out, List.length_append] at h1
                    simp at h1
                    rw [Hul.out, List.getElem?_append_right (by omega)]
                    simp [h1])
                  obtain ⟨hc0, _⟩ := bcell hbX6
                  have ee1 := (hc0 b0 (off0 + 1) hb0).trans e1
                  have ee2 := (hc0 b0 (off0 + 2) hb0).trans e2
                  have hb06 : b0 < w6.heap.size := Nat.lt_of_lt_of_le hb0 hbX6.size
                  have hcap := hK6.cap_le
                  have s0 : w6.cell? ⟨ba, oa + nu * 6, none⟩ = some (.int .i64 13) := r0
                  have s1 : w6.cell? ⟨ba, oa + nu * 6 + 1, none⟩ = some (.int .i64 0) := r1
                  have s2 : w6.cell? ⟨ba, oa + nu * 6 + 2, none⟩ = some (.int .i64 0) := r2
                  have s3 : w6.cell? ⟨ba, oa + nu * 6 + 3, none⟩ = some (.string hd.c0.name) := r3
                  have s4 : w6.cell? ⟨ba, oa + nu * 6 + 4, none⟩ = some (.int .i64 hd.c0.n) := r4
                  have s5 : w6.cell? ⟨ba, oa + nu * 6 + 5, none⟩ = some (.bool false) := r5
                  have heq : ∀ w, (binOp .eql 48 (.agg #[.int .i64 13, .int .i64 0, .int .i64 0, .string hd.c0.name, .int .i64 hd.c0.n, .bool false]) (.agg #[.int .i64 13, .int .i64 0, .int .i64 0, .string hd.c0.name, .int .i64 hd.c0.n, .bool false])).run Try.prog w = .ok (.bool true) w := fun w => by
                    have := eqIn { op := 13, name := hd.c0.name, n := hd.c0.n } { op := 13, name := hd.c0.name, n := hd.c0.n } w
                    rw [(In.beq_iff _ _).2 rfl] at this
                    exact this
                  clear r0 r1 r2 r3 r4 r5 hwfa hcs hc1 hK6 hBw
                  go_wp2
                  go_quiet (fail)
                  go_wp2
                  go_ret
                  exact ⟨rfl, below_drewN (below_drewN hbX6 _) _⟩
  · rw [hg1] at hgc
    have Hgc := Lib.hid hgc
    clear hgc hg1 h hB
    go_enter Try.func9, Try.ntmps9
    go_wp2_with fail
    refine Hhead.out.mono ?_
    rintro e w1 ⟨rfl, hb1⟩
    have hb := hal.trans (hb1.mono hal.size)
    have x1 := (hb1.block w.heap.size (by simp)).trans Hx0.out
    have xl1 := block_lt x1
    have hgc1 := Hgc.out w1 hb
    have Hgc1 := Lib.hid hgc1
    obtain ⟨y0, y1, yl⟩ := open2 x1
    clear hgc1
    go_wp2_with fail
    refine Hgc1.out.mono ?_
    rintro e w2 ⟨rfl, hb2⟩
    replace hb := (hb.alloc hb.size _).trans (hb2.mono (by simp; omega))
    have x2 := (hb2.block w.heap.size (by simp; omega)).trans ((alloc_past xl1).trans x1)
    have xl2 := block_lt x2
    clear y0 y1 yl x1 xl1 hb1 hb2 Hgc1
    obtain ⟨y0, y1, yl⟩ := open2 x2
    go_wp2_with fail
    go_ret
    exact ⟨rfl, hb⟩
end Go.Proofs.Ytdeaeiolehglaaa
