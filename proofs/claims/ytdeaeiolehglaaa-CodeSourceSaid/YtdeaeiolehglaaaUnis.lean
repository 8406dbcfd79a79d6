/- The walk of the document's unis. -/
import Derived.Test.YtdeaeiolehglaaaM7
set_option linter.unusedVariables false
set_option linter.unusedSimpArgs false
namespace Go.Proofs.Ytdeaeiolehglaaa
open Go.RowKit

theorem infoArgR : (Try.prog.info? 69).map (fun i => (i.zero, i.size, i.bytes)) = some (some (.agg #[.slice none 0 0, .int .i64 0]), 2, 32) := by kernel_rfl
/-- a state and a row are handed back -/
def RetUn (W w : World) (A0 : Option Addr) (n0 : Nat) (B0 : Option Addr) (m0 : Nat) (D0 : Option Addr) (p0 : Nat) (R0 : Option Addr) (r0 : Nat) (s : St) (row : List (Tm × Int)) (e : Ending) (w' : World) : Prop := ∃ A n c B m d D p q R nr cr, e = .returned (.tuple #[stVal A n c B m d D p q s.next, .slice R nr cr]) ∧ StAt w' A n c B m d D p q s ∧ IsG (RArgW W) 2 w' R nr cr row ∧ NewOr w A0 n0 A n ∧ NewOr w B0 m0 B m ∧ NewOr w D0 p0 D p ∧ NewOr w R0 r0 R nr ∧ Below w.heap.size w w'

theorem one_arg {W w : World} {l : List (Tm × Int)} {vs : List (List Value)} (h1 : vs.length = l.length) (h4 : ∀ (i : Nat) (x : Tm × Int) (v : List Value), l[i]? = some x → vs[i]? = some v → RArgW W w x v) : ∀ u ∈ vs.flatten, u.oneCell' = true := by
  intro u hu
  obtain ⟨v, hv, huv⟩ := List.mem_flatten.1 hu
  obtain ⟨j, hj, rfl⟩ := List.getElem_of_mem hv
  obtain ⟨A, n, c, he, _⟩ := h4 j (l[j]'(by omega)) _ (List.getElem?_eq_getElem _) (List.getElem?_eq_getElem hj)
  rw [he] at huv
  simp at huv
  rcases huv with rfl | rfl <;> rfl
theorem one_argv (A : Option Addr) (n c : Nat) (x : Int) : ∀ u ∈ [Value.slice A n c, .int .i64 x], u.oneCell' = true := by
  intro u hu
  simp at hu
  rcases hu with rfl | rfl <;> rfl
set_option maxRecDepth 100000 in
set_option maxHeartbeats 8000000 in
theorem unis_any (W : World) (s : St) (T : Tm) (row : List (Tm × Int)) (A : Option Addr) (n c : Nat) (B : Option Addr) (m d : Nat) (D : Option Addr) (p e : Nat) (R : Option Addr) (nr cr : Nat) (A' : Option Addr) (n' c' : Nat) (w : World) (h : StAt w A n c B m d D p e s) (hs : s.fit 100000) (hr : s.room (2 * sizes T.args))
    (hR : IsG (RArgW W) 2 w R nr cr row) (hnr : nr ≤ 100000) (hW : IsC W A' n' c' T.flat) (hbW : Below W.heap.size W w) (hT : T.ok = true) (hTs : T.size ≤ 200) :
    Calls Try.prog 57 #[stVal A n c B m d D p e s.next, .slice R nr cr, .slice A' n' c'] w (RetUn W w A n B m D p R nr (unisF s T.args).1 (row ++ (unisF s T.args).2)) := by
  have hpf := parts_flat hT hTs
  have hright := right_flat hT hTs
  have h6 := args_len hT
  have hok := args_ok hT
  have hsz := size_args T
  unfold stVal
  go_enter Try.func57, Try.ntmps57
  go_upto_region 1 with fail
  (refine wp_world' (Φ := fun X => Below w.heap.size w X ∧ w.heap.size + 2 ≤ X.heap.size ∧ X.heap[w.heap.size]? = some (.cells #[.slice A n c, .int .i64 s.next, .slice B m d, .slice D p e] 72 (0, 0)) ∧ X.heap[w.heap.size + 1]? = some (.cells #[.slice none 0 0, .int .i64 0, .slice none 0 0, .slice none 0 0] 72 (0, 0))) ⟨((Below.refl _ _).alloc (Nat.le_refl _) _).alloc (by simp) _, by simp, (alloc_past (by simp)).trans (alloc_at rfl), alloc_at (by simp)⟩ ?_)
  rintro X ⟨hbX, hsX, x0, x1⟩
  obtain ⟨b1, hb1⟩ : ∃ b1, b1 = w.heap.size + 1 := ⟨_, rfl⟩
  obtain ⟨b0, hb0⟩ : ∃ b0, b0 = w.heap.size := ⟨_, rfl⟩
  rw [← hb1] at x1 ⊢
  rw [← hb0] at x0 ⊢
  have hparts := rParts_w W A' n' c' T.flat X hW (hbW.trans (hbX.mono hbW.size)) hright
  rw [hpf] at hparts
  have Hparts := Lib.hid hparts
  have hne1 : ¬ b1 = b0 := by omega
  have hne2 : ¬ b0 = b1 := by omega
  have hl0 : b0 < X.heap.size := by omega
  have hl1 : b1 < X.heap.size := by omega
  have hw0 : w.heap.size ≤ b0 := by omega
  have hw1 : w.heap.size ≤ b1 := by omega
  have hwX : w.heap.size ≤ X.heap.size := by omega
  clear hparts hpf hright hb0 hb1 hsX
  go_wp2_with (first
    | (go_at_call 27; go_must (refine Hparts.out.mono ?_); rintro e w3 ⟨Ap, np, cp, vs, rfl, hlp, hop, hrows, hb3⟩))
  have hsp := Sl.own hop (by omega)
  rw [List.length_map] at hlp
  have Hlp := Lib.hid hlp
  have hnp6 : np ≤ 6 := by omega
  have hb4 : Below w.heap.size w w3 := hbX.trans (hb3.mono hwX)
  have h3 := h.below hb4
  have hR3 := IsG.below (keepsArgW W) hR hb4
  have hoff := h.off hw0
  have hoffR := hR.off hw0
  have hoff1 := h.off hw1
  have hoffR1 := hR.off hw1
  have z0 := (hb3.block b0 hl0).trans x0
  have z1 := (hb3.block b1 hl1).trans x1
  have hs3 := hb3.size
  have hbp : ∀ a, Ap = some a → a.block ≠ b0 ∧ a.block ≠ b1 := fun a ha => by have := (Own0.lt hop a ha).1; omega
  obtain ⟨UX, hUX⟩ : ∃ UX, unisF s T.args = UX := ⟨_, rfl⟩
  have hstart : (unisF s (T.args.drop 0)).1 = UX.1 ∧ row ++ (unisF s (T.args.drop 0)).2 = row ++ UX.2 := by rw [List.drop_zero, hUX]; exact ⟨rfl, rfl⟩
  have Hstart := Lib.hid hstart
  have Hr := Lib.hid hr
  have HUX := Lib.hid hUX
  clear hlp hop hstart hr hUX x0 x1
  go_loopw [1, 9] (fun rv i wr => ∃ (j : Nat) (s2 : St) (A2 : Option Addr) (n2 c2 : Nat) (B2 : Option Addr) (m2 d2 : Nat) (D2 : Option Addr) (p2 q2 : Nat) (R2 : Option Addr) (nr2 cr2 : Nat) (rw2 : List (Tm × Int)), j ≤ np ∧ i = .int .i64 j ∧ rv = .slice R2 nr2 cr2 ∧
      wr.heap[b0]? = some (.cells #[.slice A2 n2 c2, .int .i64 s2.next, .slice B2 m2 d2, .slice D2 p2 q2] 72 (0, 0)) ∧ StAt wr A2 n2 c2 B2 m2 d2 D2 p2 q2 s2 ∧ (Off A2 n2 b0 ∧ Off B2 m2 b0 ∧ Off D2 p2 b0) ∧ s2.fit 100000 ∧ IsG (RArgW W) 2 wr R2 nr2 cr2 rw2 ∧ Off R2 nr2 b0 ∧ nr2 ≤ nr + j ∧
      Hid ((unisF s2 (T.args.drop j)).1 = UX.1 ∧ rw2 ++ (unisF s2 (T.args.drop j)).2 = row ++ UX.2) ∧ Hid (s2.room (2 * sizes (T.args.drop j))) ∧ But w3 wr b0 ∧ (NewOr w3 A n A2 n2 ∧ NewOr w3 B m B2 m2 ∧ NewOr w3 D p D2 p2 ∧ NewOr w3 R nr R2 nr2)) (fun _ i _ => np - (intOf i).toNat)
  case atStart => exact ⟨0, s, A, n, c, B, m, d, D, p, e, R, nr, cr, row, Nat.zero_le _, rfl, rfl, z0, h3, hoff, hs, hR3, hoffR, by omega, Hstart, by simpa using Hr, But.refl _ _, .inl ⟨rfl, rfl⟩, .inl ⟨rfl, rfl⟩, .inl ⟨rfl, rfl⟩, .inl ⟨rfl, rfl⟩⟩
  case round =>
    clear h3 hoff hs hR3 hoffR Hstart Hr z0
    obtain ⟨j, s2, A2, n2, c2, B2, m2, d2, D2, p2, q2, R2, nr2, cr2, rw2, hj, rfl, rfl, hx0, h2, ⟨hoA, hoB, hoD⟩, hfit, hR2, hoR, hnr2, hres, hroom, hbut, hnA, hnB, hnD, hnR⟩ := hrel
    have hsw := hbut.size
    by_cases hlt : j < np
    · obtain ⟨t2, ht2⟩ : ∃ t2, T.args[j]? = some t2 := ⟨_, List.getElem?_eq_getElem (by have := Hlp.out; omega)⟩
      have hd := drop_get ht2
      have hok2 := ok_mem hok (List.mem_of_getElem? ht2)
      have hsz2 := size_mem (List.mem_of_getElem? ht2)
      obtain ⟨A5, n5, c5, hv5, hc5⟩ := hrows.2 j t2.flat (by rw [List.getElem?_map, ht2]; rfl)
      obtain ⟨bp, op_, rfl, hbpl, hcp⟩ := hsp.cells (by omega)
      have hcell5 := (World.cell?_of_block (a := ⟨bp, op_ + j, none⟩) (hbut.block bp hbpl (hbp _ rfl).1)).trans (hcp j _ hv5)
      have hbp2 : bp < wr.heap.size := by omega
      have hcap5 := hsp.hcap
      obtain ⟨b5, off5, rfl, hb5', g0, g1, g2, hn5⟩ := hc5.tm
      have hWr : Below W.heap.size W wr := hbW.trans ((hb4.trans (hbut.below hw0 hb4.size)).mono hbW.size)
      obtain ⟨hcW5, _⟩ := bcell hWr
      have g0' := (hcW5 b5 off5 hb5').trans g0
      have g2' := (hcW5 b5 (off5 + 2) hb5').trans g2
      have hlt5 : b5 < wr.heap.size := Nat.lt_of_lt_of_le hb5' hWr.size
      have hn05 : (0 : Int) < (n5 : Int) := by omega
      have Hd := Lib.hid hd
      have y0 := cells_of hx0 0
      have y1 := cells_of hx0 1
      have y2 := cells_of hx0 2
      have y3 := cells_of hx0 3
      have f0 := frozen_of hx0 0
      have f1 := frozen_of hx0 1
      have f2 := frozen_of hx0 2
      have f3 := frozen_of hx0 3
      simp at y0 y1 y2 y3
      have hlb0 := block_lt hx0
      have hn5b : ¬ b5 = b0 := by have := hbW.size; omega
      have hrm := hroom.out
      rw [hd, sizes_cons, size_args] at hrm
      have hw := c0_wf hok2
      have nbp : ¬ bp = b0 := (hbp _ rfl).1
      have nbp' : ¬ b0 = bp := fun h => nbp h.symm
      have hn5b' : ¬ b0 = b5 := fun h => hn5b h.symm
      clear hd ht2 hcp hcW5 g0 g1 g2 hv5
      cases t2 with
      | v x => 
        simp only [Tm.c0] at g0' g2'
        have hvx : i64 x := hw.n
        obtain ⟨s5, hs5⟩ : ∃ s5, (regF s2 x).1 = s5 := ⟨_, rfl⟩
        obtain ⟨r5, hr5⟩ : ∃ r5, (regF s2 x).2.1 = r5 := ⟨_, rfl⟩
        obtain ⟨fst5, hf5⟩ : ∃ f5, (regF s2 x).2.2 = f5 := ⟨_, rfl⟩
        have hone : oneF 5 6 7 s2 (.v x) = s5.emit { op := if fst5 then 5 else 6, x := r5 } := by rw [← hs5, ← hr5, ← hf5]; rfl
        have hfit5 : s5.fit 100000 := by rw [← hs5]; exact fit_reg hfit (hrm.le (by omega)) hvx
        have hr5b := regF_reg hfit x (by omega)
        have hcd5 := regF_code s2 x
        rw [hr5] at hr5b
        rw [hs5] at hcd5
        have Hone := Lib.hid hone
        have HS := Lib.hid hs5
        have HR := Lib.hid hr5
        have HF := Lib.hid hf5
        clear hone hs5 hr5 hf5
        have na1 : ¬ wr.heap.size = b0 := by omega
        have na2 : ¬ b0 = wr.heap.size := by omega
        have na3 : ¬ wr.heap.size = bp := by omega
        have na4 : ¬ bp = wr.heap.size := by omega
        have na5 : ¬ wr.heap.size = b5 := by omega
        have na6 : ¬ b5 = wr.heap.size := by omega
        go_upto_region 10 with fail
        go_cut [10, 11, 12] (fun pt qt rt wx => ∃ (bN : Nat) (B5 : Option Addr) (m5 d5 : Nat) (D5 : Option Addr) (p5 q5 : Nat), pt = .pointer (some ⟨bN, 0, none⟩) ∧ qt = .int .i64 r5 ∧ rt = .bool fst5 ∧ wx.heap[bN]? = some (.cells #[.slice A2 n2 c2, .int .i64 s5.next, .slice B5 m5 d5, .slice D5 p5 q5] 72 (0, 0)) ∧ wr.heap.size ≤ bN ∧
            StAt wx A2 n2 c2 B5 m5 d5 D5 p5 q5 s5 ∧ NewOr wr B2 m2 B5 m5 ∧ NewOr wr D2 p2 D5 p5 ∧ Below wr.heap.size wr wx)
        case first =>
          go_region_held3 (fun w' => w'.cell? ⟨b0, 0, none⟩ = some (.slice A2 n2 c2) ∧ w'.cell? ⟨b0, 1, none⟩ = some (.int .i64 s2.next) ∧ w'.cell? ⟨b0, 2, none⟩ = some (.slice B2 m2 d2) ∧ w'.cell? ⟨b0, 3, none⟩ = some (.slice D2 p2 q2) ∧ w'.cell? ⟨bp, op_ + j, none⟩ = some (.slice (some ⟨b5, off5, none⟩) n5 c5) ∧ w'.cell? ⟨b5, off5 + 2, none⟩ = some (.int .i64 x))
            (go_keep)
            (first
              | (go_at_call 56; refine (register_any s2 x A2 n2 c2 B2 m2 d2 D2 p2 q2 _ (h2.below (by repeat (first | exact Below.refl _ _ | refine Below.drew ?_ | refine Below.alloc ?_ ?_ _ | exact Nat.le_refl _ | (first | omega | (simp; done) | (simp; omega))))) hvx hfit).mono ?_; rw [HS.out, HR.out, HF.out]; rintro e w5 ⟨B5, m5, d5, D5, p5, q5, rfl, hst5, hnB5, hnD5, hbn5⟩; (have hb5w : Below wr.heap.size wr w5 := Below.trans (by repeat (first | exact Below.refl _ _ | refine Below.drew ?_ | refine Below.alloc ?_ ?_ _ | exact Nat.le_refl _ | (first | omega | (simp; done) | (simp; omega)))) (hbn5.mono (by first | exact Nat.le_refl _ | (simp; done) | (simp; omega)))); (have k0 := (hb5w.cell (p := ⟨b0, 0, none⟩) hlb0).trans y0); (have k1 := (hb5w.cell (p := ⟨b0, 1, none⟩) hlb0).trans y1); (have k2 := (hb5w.cell (p := ⟨b0, 2, none⟩) hlb0).trans y2); (have k3 := (hb5w.cell (p := ⟨b0, 3, none⟩) hlb0).trans y3); (have k4 := (hb5w.cell (p := ⟨bp, op_ + j, none⟩) hbp2).trans hcell5); (have k5 := (hb5w.cell (p := ⟨b5, off5 + 2, none⟩) hlt5).trans g2'); (first | (have nb := (hbn5.block wr.heap.size (by simp)).trans (alloc_at (w := wr) (g := wr.heap.size) rfl); have nb0 := cells_of nb 0; have nb1 := cells_of nb 1; have nb2 := cells_of nb 2; have nb3 := cells_of nb 3; have nf0 := frozen_of nb 0; have nf1 := frozen_of nb 1; have nf2 := frozen_of nb 2; have nf3 := frozen_of nb 3; have nbl := block_lt nb; simp at nb0 nb1 nb2 nb3) | skip); have hs5w := hb5w.size; have nc1 : ¬ w5.heap.size = b0 := (by omega); have nc2 : ¬ b0 = w5.heap.size := (by omega); have nc3 : ¬ w5.heap.size = bp := (by omega); have nc4 : ¬ bp = w5.heap.size := (by omega); have nc5 : ¬ w5.heap.size = b5 := (by omega); have nc6 : ¬ b5 = w5.heap.size := (by omega); simp only [stVal])
              | fail)
          all_goals
            go_wp2_with fail
            go_meet
            first
              | exact ⟨wr.heap.size, B5, m5, d5, D5, p5, q5, rfl, rfl, rfl, set4 nb _ _ _ _, Nat.le_refl _, hst5.but (but4 _ _ _ _ _ _) (h2.off (Nat.le_refl _)).1 (((h2.off (Nat.le_refl _)).2.1).new (by simp) hnB5) (((h2.off (Nat.le_refl _)).2.2).new (by simp) hnD5), hnB5.lower (by simp), hnD5.lower (by simp), Below.setCell (Below.setCell (Below.setCell (Below.setCell hb5w (p := ⟨wr.heap.size, 0, none⟩) (Nat.le_refl _) _) (p := ⟨wr.heap.size, 1, none⟩) (Nat.le_refl _) _) (p := ⟨wr.heap.size, 2, none⟩) (Nat.le_refl _) _) (p := ⟨wr.heap.size, 3, none⟩) (Nat.le_refl _) _⟩
              | exact ⟨w5.heap.size, B5, m5, d5, D5, p5, q5, rfl, rfl, rfl, alloc_at rfl, hs5w, hst5.below ((Below.refl _ _).alloc (Nat.le_refl _) _), hnB5.lower (by simp), hnD5.lower (by simp), hb5w.alloc hs5w _⟩
        case rest =>
          obtain ⟨bN, B5, m5, d5, D5, p5, q5, rfl, rfl, rfl, hxN, hNl, hst5, hnB5, hnD5, hb5⟩ := hcut
          have hvar : NewOr w3 B m B5 m5 := hnB.trans hnB5 (by omega)
          have hvar2 : NewOr w3 D p D5 p5 := hnD.trans hnD5 (by omega)
          have hoB5 := hoB.new hlb0 hnB5
          have hoD5 := hoD.new hlb0 hnD5
          have hx05 := (hb5.block b0 hlb0).trans hx0
          have ff0 := frozen_of hx05 0
          have ff1 := frozen_of hx05 1
          have ff2 := frozen_of hx05 2
          have ff3 := frozen_of hx05 3
          have fy0 := cells_of hx05 0
          have fy1 := cells_of hx05 1
          have fy2 := cells_of hx05 2
          have fy3 := cells_of hx05 3
          have fn0 := cells_of hxN 0
          have fn1 := cells_of hxN 1
          have fn2 := cells_of hxN 2
          have fn3 := cells_of hxN 3
          have fnl := block_lt hxN
          have fl0 := block_lt hx05
          simp at fy0 fy1 fy2 fy3 fn0 fn1 fn2 fn3
          clear y0 y1 y2 y3 f0 f1 f2 f3 hcell5 g0' g2'
          go_upto_region 12 with fail
          refine wp_world' (Φ := fun V => But wr V b0 ∧ V.heap[b0]? = some (.cells #[.slice A2 n2 c2, .int .i64 s5.next, .slice B5 m5 d5, .slice D5 p5 q5] 72 (0, 0)) ∧ StAt V A2 n2 c2 B5 m5 d5 D5 p5 q5 s5)
            ⟨(But.of hb5).trans (but4 _ _ _ _ _ _), set4 hx05 _ _ _ _, hst5.but (but4 _ _ _ _ _ _) hoA hoB5 hoD5⟩ ?_
          rintro V ⟨hbV, v0, hstV⟩
          clear hx05 ff0 ff1 ff2 ff3 fy0 fy1 fy2 fy3 fn0 fn1 fn2 fn3 fnl fl0 hxN hst5
          have y0 := cells_of v0 0
          have y1 := cells_of v0 1
          have y2 := cells_of v0 2
          have y3 := cells_of v0 3
          have vl := block_lt v0
          simp at y0 y1 y2 y3
          have hem := fun (op : Int) (hop : i64 op) => remit_any s5 { op := op, x := r5 } A2 n2 c2 B5 m5 d5 D5 p5 q5 V hstV (wfI hop (i64_small (by omega) (by omega)) i64_0 i64_0 empty_size) (by have := hstV.code.len; have := hfit5.code; omega)
          have Hem := Lib.hid hem
          clear hem
          cases fst5
          all_goals
            go_wp2_with (first
              | (go_at_call 36; go_must (refine (Hem.out _ (i64_small (by decide) (by decide))).mono ?_); rintro e w7 ⟨A7, n7, c7, rfl, hst7, hnA7, hb7⟩; have v07 := (hb7.block b0 vl).trans v0; obtain ⟨e0, e1, e2, e3, h0, h1, h2', h3, v7l⟩ := open4 v07; simp only [stVal]))
            have hlen5 : s5.code.length + 1 ≤ 100000 := by rw [hcd5]; have := hrm.code; omega
            have hb7V := But.of (b := b0) hb7
            have hone := Hone.out
            simp only [Bool.false_eq_true, if_false, if_true] at hone
            go_roundw
            case rel =>
              refine ⟨j + 1, s5.emit _, A7, n7, c7, B5, m5, d5, D5, p5, q5, R2, nr2, cr2, rw2, by omega, by go_num, rfl, set4 v07 _ _ _ _, hst7.but4 ((hoA.new vl hnA7)) hoB5 hoD5 _ _ _ _, ⟨hoA.new vl hnA7, hoB5, hoD5⟩, fit_emit hfit5 hlen5 (wfI (i64_small (by decide) (by decide)) (i64_small (by omega) (by omega)) i64_0 i64_0 empty_size), (IsG.but (keepsArgWb W) (IsG.but (keepsArgWb W) hR2 hbV hoR) hb7V hoR).but4 (keepsArgWb W) hoR _ _ _ _, hoR, by omega, Lib.hid ?_, Lib.hid ?_, hbut.trans ((hbV.trans hb7V).trans (but4 _ _ _ _ _ _)), hnA.trans (hnA7.lower (by have := hbV.size; omega)) (Nat.le_refl _), hvar, hvar2, hnR⟩
              · have := hres.out; rw [Hd.out, unisF_one _ _ _ (by simp [Tm.c0]), hone] at this; exact this
              · rw [← hone]; exact room_one _ _ _ _ (hrm.le (by omega))
            case measure => simp [intOf]; omega
      | i x =>
        simp only [Tm.c0] at g0' g2'
        have hone : oneF 5 6 7 s2 (.i x) = s2.emit { op := 7, n := x } := rfl
        have hwf : ({ op := 7, n := x } : In).wf := wfI (i64_small (by decide) (by decide)) i64_0 i64_0 hw.n empty_size
        have hlen2 : n2 ≤ 100000 := by have := h2.code.len; have := hfit.code; omega
        have hlen5 : s2.code.length + 1 ≤ 100000 := by have := hrm.code; omega
        have Hone := Lib.hid hone
        clear hone
        go_upto_region 16 with fail
        go_region_with (first
            | (go_at_call 36; refine (remit_any s2 { op := 7, n := x } A2 n2 c2 B2 m2 d2 D2 p2 q2 _ (h2.below (Below.refl _ _).drew) hwf hlen2).mono ?_; rintro e w7 ⟨A7, n7, c7, rfl, hst7, hnA7, hb7⟩; (have hb7w : Below wr.heap.size wr w7 := Below.trans (Below.refl _ _).drew hb7); (have v07 := (hb7w.block b0 hlb0).trans hx0); (obtain ⟨e0, e1, e2, e3, h0, h1, h2', h3, v7l⟩ := open4 v07); (have k4 := (hb7w.cell (p := ⟨bp, op_ + j, none⟩) hbp2).trans hcell5); (have k5 := (hb7w.cell (p := ⟨b5, off5 + 2, none⟩) hlt5).trans g2'); simp only [stVal])
            | fail)
        all_goals
          have hb7V := But.of (b := b0) hb7w
          go_wp2_with fail
          go_roundw
          case rel =>
            refine ⟨j + 1, s2.emit _, A7, n7, c7, B2, m2, d2, D2, p2, _, R2, nr2, cr2, rw2, by omega, by go_num, rfl, set4 v07 _ _ _ _, hst7.but4 (hoA.new hlb0 hnA7) hoB hoD _ _ _ _, ⟨hoA.new hlb0 hnA7, hoB, hoD⟩, fit_emit hfit hlen5 hwf, (IsG.but (keepsArgWb W) hR2 hb7V hoR).but4 (keepsArgWb W) hoR _ _ _ _, hoR, by omega, Lib.hid ?_, Lib.hid ?_, hbut.trans (hb7V.trans (but4 _ _ _ _ _ _)), hnA.trans (hnA7.lower (by simp; omega)) (Nat.le_refl _), hnB, hnD, hnR⟩
            · have := hres.out; rw [Hd.out, unisF_one _ _ _ (by simp [Tm.c0]), Hone.out] at this; exact this
            · rw [← Hone.out]; exact room_one _ _ _ _ (hrm.le (by omega))
          case measure => simp [intOf]; omega
      | f nm us =>
        simp only [Tm.c0] at g0' g2'
        have huf := unisF_fun s2 (.f nm us) (T.args.drop (j + 1)) rfl
        have hnx := hrm.next
        have hpos : 0 < (Tm.f nm us).size := Tm.size_pos _
        have hwf : ({ op := 5, x := (s2.next : Int) } : In).wf := wfI (i64_small (by decide) (by decide)) (i64_small (by omega) (by omega)) i64_0 i64_0 empty_size
        have hlen2 : n2 ≤ 100000 := by have := h2.code.len; have := hfit.code; omega
        have hlen5 : s2.code.length + 1 ≤ 100000 := by have := hrm.code; omega
        have hnext : s2.next + 1 ≤ 100000 := by omega
        have Huf := Lib.hid huf
        clear huf hnx hpos
        go_upto_region 7 with (first
          | (go_at_call 36; go_must (refine (remit_any s2 { op := 5, x := (s2.next : Int) } A2 n2 c2 B2 m2 d2 D2 p2 q2 _ h2 hwf hlen2).mono ?_); rintro e w7 ⟨A7, n7, c7, rfl, hst7, hnA7, hb7⟩; have v07 := (hb7.block b0 hlb0).trans hx0; obtain ⟨e0, e1, e2, e3, h0, h1, h2', h3, v7l⟩ := open4 v07; simp only [stVal]))
        refine wp_world' (Φ := fun V => But wr V b0 ∧ V.heap[b0]? = some (.cells #[.slice A7 n7 c7, .int .i64 s2.next, .slice B2 m2 d2, .slice D2 p2 q2] 72 (0, 0)) ∧ StAt V A7 n7 c7 B2 m2 d2 D2 p2 q2 (s2.emit { op := 5, x := (s2.next : Int) }))
          ⟨(But.of hb7).trans (but4 _ _ _ _ _ _), set4 v07 _ _ _ _, hst7.but4 (hoA.new hlb0 hnA7) hoB hoD _ _ _ _⟩ ?_
        rintro V ⟨hbV, v0, hstV⟩
        have hoA7 := hoA.new hlb0 hnA7
        clear v07 e0 e1 e2 e3 h0 h1 h2' h3 v7l hst7 y0 y1 y2 y3 f0 f1 f2 f3
        obtain ⟨y0, y1, y2, y3, f0, f1, f2, f3, vl⟩ := open4 v0
        have k4 := (World.cell?_of_block (a := ⟨bp, op_ + j, none⟩) (hbV.block bp hbp2 nbp)).trans hcell5
        have hbpV := Nat.lt_of_lt_of_le hbp2 hbV.size
        have hRV := IsG.but (keepsArgWb W) hR2 hbV hoR
        obtain ⟨vs', v1, v2, hsl, v4⟩ := hRV.rows
        have hlen := hRV.len
        have hone : ∀ u ∈ vs'.flatten, u.oneCell' = true := one_arg v1 v4
        have hbX1 : Below V.heap.size V V := Below.refl _ _
        have hnr6 : nr2 ≤ 100010 := by omega
        go_region_held3 (fun w' => w'.cell? ⟨bp, op_ + j, none⟩ = some (.slice (some ⟨b5, off5, none⟩) n5 c5) ∧ w'.cell? ⟨b0, 1, none⟩ = some (.int .i64 s2.next))
          (go_keep)
          (first
            | (refine step_append_any (by rfl) (.tmp 33) (.tmp 34) 67 (by rfl) V.heap.size 69 Try.underlying67 infoArgR (by rfl) (by omega) (by rfl) (Tail.nil _ _ _ _ _) ?_ (by rfl) ?_ hone (by omega) (by omega) ?_ (by intro hq; cases hq) ?_; (focus (intro b hb; cases hb; first | omega | (simp; done) | (simp; omega))); (focus (refine hsl.below ?_; exact by repeat (first | exact Below.refl _ _ | exact hbX1 | refine Below.drew ?_ | refine Below.alloc ?_ ?_ _ | (first | omega | (simp; done) | (simp; omega))))); (focus (first | omega | (simp; done) | (simp; omega))); intro A1 cap1 w1 ht1 hbn1 hap1; (try simp only [Nat.zero_add, List.nil_append] at ht1 ⊢); have hbX2 : Below V.heap.size V w1 := Below.trans (by repeat (first | exact Below.refl _ _ | exact hbX1 | refine Below.drew ?_ | refine Below.alloc ?_ ?_ _ | (first | omega | (simp; done) | (simp; omega)))) hbn1; have hs1 := hbX2.size; have q0 := (hbX2.cell (p := ⟨bp, op_ + j, none⟩) hbpV).trans k4; have q1 := (hbX2.cell (p := ⟨b0, 1, none⟩) vl).trans y1)
            | (refine step_append_any (xs := vs'.flatten) (by rfl) (.tmp 35) (.tmp 43) 67 (by rfl) V.heap.size 69 Try.underlying67 infoArgR (by rfl) (by omega) (by rfl) ?_ ?_ (by rfl) ?_ (one_argv (some ⟨b5, off5, none⟩) n5 c5 (s2.next : Int)) (by omega) (by omega) ?_ ?_ ?_; (focus (first | exact ht1 | exact ht1.below ((Below.refl _ _).alloc (Nat.le_refl _) _))); (focus (intro b hb; have hq := (hap1.blk b hb).1; first | omega | (simp; omega))); (focus (first | exact Sl.blk (cs := #[.slice (some ⟨b5, off5, none⟩) n5 c5, .int .i64 s2.next]) (t := 69) (alloc_at (by first | rfl | (simp; done) | (simp; omega) | omega)) rfl (by simp [maxLen]) | exact Sl.blk (cs := #[.slice (some ⟨b5, off5, none⟩) n5 c5, .int .i64 s2.next]) (t := 69) ((hap1.old _ (by first | omega | (simp; done) | (simp; omega)) (by intro a ha; cases ha; first | omega | (simp; done) | (simp; omega))).trans (alloc_at (by first | rfl | (simp; done) | (simp; omega) | omega))) rfl (by simp [maxLen]) | exact Sl.blk (cs := #[.slice (some ⟨b5, off5, none⟩) n5 c5, .int .i64 s2.next]) (t := 69) ((hap1.old _ (by first | omega | (simp; done) | (simp; omega)) (by intro a ha; cases ha; first | omega | (simp; done) | (simp; omega))).trans ((alloc_past (by first | omega | (simp; done) | (simp; omega))).trans (alloc_at (by first | rfl | (simp; done) | (simp; omega) | omega)))) rfl (by simp [maxLen]))); (focus (first | omega | (simp; omega))); (focus (exact ht1.none_cap)); intro A2' cap2 w2 ht2 hbn2 hap2; have hbX3 : Below V.heap.size V w2 := Below.trans (by first | exact hbX2 | exact hbX2.alloc (by omega) _) hbn2; have r0 := (hbX3.cell (p := ⟨bp, op_ + j, none⟩) hbpV).trans k4; have r1 := (hbX3.cell (p := ⟨b0, 1, none⟩) vl).trans y1; have hs3' := hbX3.size)
            | fail)
        all_goals
          have hA2 : ∀ a, A2' = some a → V.heap.size ≤ a.block := fun a ha => by
            rcases (hap2.blk a ha).2 with ⟨a0, h0, he⟩ | h2
            · rw [he]
              rcases (hap1.blk a0 h0).2 with ⟨a1, h1, he1⟩ | h1
              · cases h1; rw [he1]; first | exact Nat.le_refl _ | (simp; done) | (simp; omega)
              · have h1' : V.heap.size ≤ a0.block := Nat.le_trans (by first | exact Nat.le_refl _ | (simp; done) | (simp; omega)) h1
                exact h1'
            · exact Nat.le_trans (by first | exact hs1 | (simp; omega)) h2
          have z0 := (hbX3.block b0 vl).trans v0
          obtain ⟨e0, e1, e2, e3, h0, h1, h2', h3, v7l⟩ := open4 z0
          have hstW := hstV.below hbX3
          have hbW := hbV.trans (But.of (b := b0) hbX3)
          have hRW : IsG (RArgW W) 2 w2 A2' (nr2 + 1) cap2 (rw2 ++ [(.f nm us, (s2.next : Int))]) := (TailG.snoc ht2 hlen v1 v2 rfl (fun i x v hx hv => v4 i x v hx hv) ⟨some ⟨b5, off5, none⟩, n5, c5, rfl, hc5⟩).is (by omega)
          have hoRW : Off A2' (nr2 + 1) b0 := fun _ a ha => by have := hA2 a ha; omega
          clear ht1 ht2 hap1 hap2 hbn1 hbn2 q0 q1 r0 r1 hbX2 y0 y1 y2 y3 f0 f1 f2 f3 k4
          go_wp2_with fail
          go_roundw
          case rel =>
            have z1' := set_block (k := 1) z0 (.int .i64 ((s2.next : Int) + 1))
            simp at z1'
            have hst8 := hstW.but (But.set w2 b0 1 (.int .i64 ((s2.next : Int) + 1))) hoA7 hoB hoD
            refine ⟨j + 1, (s2.emit _).bump, A7, n7, c7, B2, m2, d2, D2, p2, q2, A2', nr2 + 1, cap2, rw2 ++ [_], by omega, by go_num, rfl, by simpa [St.bump, St.emit] using z1', ⟨hst8.code, hst8.vars, hst8.regs⟩, ⟨hoA7, hoB, hoD⟩, fit_bump (fit_emit hfit hlen5 hwf) hnext, hRW.but (keepsArgWb W) (But.set w2 b0 1 (.int .i64 ((s2.next : Int) + 1))) hoRW, hoRW, by omega, Lib.hid ?_, Lib.hid ?_, hbut.trans (hbW.setB _), hnA.trans (hnA7.lower hsw) (Nat.le_refl _), hnB, hnD, .inr fun a ha => by have := hA2 a ha; have := hbV.size; omega⟩
            · have := hres.out; rw [Hd.out, Huf.out] at this; exact ⟨this.1, by rw [List.append_assoc]; exact this.2⟩
            · exact room_fresh _ (hrm.le (by omega))
          case measure => simp [intOf]; omega
    · have hje : j = np := by omega
      subst hje
      have hl13 := Nat.lt_of_lt_of_le hl1 hs3
      have x1 := (hbut.block b1 hl13 hne1).trans z1
      obtain ⟨y0, y1, y2, y3, f0, f1, f2, f3, bl0⟩ := open4 hx0
      obtain ⟨i0, i1, i2, i3, k0, k1, k2, k3, bl1⟩ := open4 x1
      have hdn : T.args.drop j = [] := List.drop_eq_nil_of_le (by have := Hlp.out; omega)
      have hfin := hres.out
      rw [hdn] at hfin
      have hfin1 : s2 = UX.1 := hfin.1
      have hfin2 : rw2 = row ++ UX.2 := by have := hfin.2; simpa [unisF] using this
      have hbw : Below w.heap.size w wr := hb4.trans (hbut.below hw0 hb4.size)
      go_wp2
      refine bodyPost_ret (v := .tuple #[stVal A2 n2 c2 B2 m2 d2 D2 p2 q2 s2.next, .slice R2 nr2 cr2]) (by simp [results, Try.results57, go_sem, stVal, *]) rfl ?_
      rw [HUX.out, ← hfin1, ← hfin2]
      exact ⟨A2, n2, c2, B2, m2, d2, D2, p2, q2, R2, nr2, cr2, rfl, h2.but4 (hoff1.1.new hl13 hnA) (hoff1.2.1.new hl13 hnB) (hoff1.2.2.new hl13 hnD) _ _ _ _, hR2.but4 (keepsArgWb W) (hoffR1.new hl13 hnR) _ _ _ _, hnA.lower hb4.size, hnB.lower hb4.size, hnD.lower hb4.size, hnR.lower hb4.size, hbw.trans ((But.below (but4 _ _ _ _ _ _) hw1 hbw.size))⟩
end Go.Proofs.Ytdeaeiolehglaaa
