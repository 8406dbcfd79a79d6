/- The walk that gathers what registers hold. -/
import Derived.Test.YtdeaeiolehglaaaM13
set_option linter.unusedVariables false
set_option linter.unusedSimpArgs false
namespace Go.Proofs.Ytdeaeiolehglaaa
open Go.RowKit Go.Maps

def RetRd (w : World) (M : Rm) (e : Ending) (w' : World) : Prop := ∃ br mv ms mq mi ml, e = .returned (.pointer (some ⟨br, 0, none⟩)) ∧ RdAt w' w.heap.size br mv ms mq mi ml M ⟨[], 0⟩ ∧ Below w.heap.size w w'
theorem readG_cons (r : Rm) (i : In) (l : List In) : readG r (i :: l) = readG (rdStep r i) l := rfl
theorem i64_key {l : List In} (h : ∀ i ∈ l, i.wf) {k : Nat} {i : In} (hi : l[k]? = some i) : i.wf := h i (List.mem_of_getElem? hi)

set_option maxRecDepth 100000 in
set_option maxHeartbeats 8000000 in
theorem read_any (A : Option Addr) (n cap : Nat) (l : List In) (w : World) (h : IsK w A n cap l) (hn : n ≤ 100000) :
    Calls Try.prog 38 #[.slice A n cap] w (RetRd w (readF l)) := by
  have hmm := @run_makeMap Try.prog
  have hl := h.len
  have Hl := Lib.hid hl
  clear hl
  go_enter Try.func38, Try.ntmps38
  go_upto_region 3 with fail
  refine wp_world' (Φ := fun X => Below w.heap.size w X ∧ w.heap.size + 5 ≤ X.heap.size ∧ MapI Try.prog 3 X w.heap.size [] ∧ MapI Try.prog 3 X (w.heap.size + 1) [] ∧ MapI Try.prog 3 X (w.heap.size + 1 + 1) [] ∧ MapI Try.prog 3 X (w.heap.size + 1 + 1 + 1) [] ∧
      X.heap[w.heap.size + 1 + 1 + 1 + 1]? = some (.cells #[.map (some w.heap.size), .map (some (w.heap.size + 1)), .map (some (w.heap.size + 1 + 1)), .map (some (w.heap.size + 1 + 1 + 1)), .int .i64 0] 107 (0, 0))) ?_ ?_
  · have b1 : Below w.heap.size w (w.alloc (.map #[] 0)) := (Below.refl _ _).alloc (Nat.le_refl _) _
    have b2 := b1.alloc b1.size (.map #[] 0)
    have b3 := b2.alloc b2.size (.map #[] 0)
    have b4 := b3.alloc b3.size (.map #[] 0)
    have m0 := MapI.made w Try.prog 3
    have m1 := MapI.made (w.alloc (.map #[] 0)) Try.prog 3
    have m2 := MapI.made ((w.alloc (.map #[] 0)).alloc (.map #[] 0)) Try.prog 3
    have m3 := MapI.made (((w.alloc (.map #[] 0)).alloc (.map #[] 0)).alloc (.map #[] 0)) Try.prog 3
    have al : ∀ (w : World) (o : Obj), Below w.heap.size w (w.alloc o) := fun w o => (Below.refl _ _).alloc (Nat.le_refl _) o
    refine ⟨b4.alloc b4.size _, by simp, (((m0.below (al _ _)).below (al _ _)).below (al _ _)).below (al _ _), by simpa using ((m1.below (al _ _)).below (al _ _)).below (al _ _), by simpa using (m2.below (al _ _)).below (al _ _), by simpa using m3.below (al _ _), alloc_at (by simp)⟩
  · rintro X ⟨hbX, hsX, mX0, mX1, mX2, mX3, xr⟩
    obtain ⟨br, hbr⟩ : ∃ br, br = w.heap.size + 1 + 1 + 1 + 1 := ⟨_, rfl⟩
    obtain ⟨mi, hmi⟩ : ∃ mi, mi = w.heap.size + 1 + 1 + 1 := ⟨_, rfl⟩
    obtain ⟨mq, hmq⟩ : ∃ mq, mq = w.heap.size + 1 + 1 := ⟨_, rfl⟩
    obtain ⟨ms, hms⟩ : ∃ ms, ms = w.heap.size + 1 := ⟨_, rfl⟩
    obtain ⟨mv, hmv⟩ : ∃ mv, mv = w.heap.size := ⟨_, rfl⟩
    rw [← hbr] at xr ⊢
    rw [← hmi] at mX3 xr ⊢
    rw [← hmq] at mX2 xr ⊢
    rw [← hms] at mX1 xr ⊢
    rw [← hmv] at mX0 xr ⊢
    have hlow : w.heap.size ≤ br ∧ w.heap.size ≤ mv ∧ w.heap.size ≤ ms ∧ w.heap.size ≤ mq ∧ w.heap.size ≤ mi := by omega
    have hne : mv ≠ ms ∧ mv ≠ mq ∧ mv ≠ mi ∧ ms ≠ mq ∧ ms ≠ mi ∧ mq ≠ mi := by omega
    have hneb : br ≠ mv ∧ br ≠ ms ∧ br ≠ mq ∧ br ≠ mi := by omega
    have hwX : w.heap.size ≤ X.heap.size := hbX.size
    have hlbr := block_lt xr
    obtain ⟨RR, hRR⟩ : ∃ RR, readF l = RR := ⟨_, rfl⟩
    have hstart : readG ⟨[], [], [], -1⟩ (l.drop 0) = RR := by simpa [readF] using hRR
    have Hstart := Lib.hid hstart
    have HRR := Lib.hid hRR
    have hlt2 : (1 : Int) = 1 := rfl
    clear hbr hmi hmq hms hmv hstart hRR hsX hmm hlt2
    go_wp2
    go_loopw [4, 15] (fun o i wr => ∃ (k : Nat) (M : Rm) (ml : List (Int × Value)), k ≤ n ∧ i = .int .i64 k ∧ o = .int .i64 M.opn ∧ RdAt wr w.heap.size br mv ms mq mi ml M ⟨[], 0⟩ ∧ Opn wr w.heap.size ml M.structs M.opn ∧
        i64 M.opn ∧ (M.same.length ≤ k ∧ M.ints.length ≤ k ∧ M.structs.length ≤ k) ∧ (∀ j row, lk M.structs j = some row → row.length ≤ k) ∧ Hid (readG M (l.drop k) = RR) ∧ Below w.heap.size w wr) (fun _ i _ => n - (intOf i).toNat)
    case atStart => exact ⟨0, ⟨[], [], [], -1⟩, [], Nat.zero_le _, rfl, rfl, ⟨xr, mX0, mX1, mX2, mX3, StR.nil _, hlow, hne⟩, fun h => absurd h (by decide), i64_small (by decide) (by decide), ⟨Nat.le_refl _, Nat.le_refl _, Nat.le_refl _⟩, (fun j row hr => by simp [lk] at hr), Hstart, hbX⟩
    case round =>
      clear xr mX0 mX1 mX2 mX3 Hstart
      obtain ⟨k, M, ml, hk, rfl, rfl, hR, hO, ho64, ⟨hsl, hil, htl⟩, hrl, hres, hb⟩ := hrel
      have hsb := hb.size
      by_cases hlt : k < n
      · obtain ⟨i, hik⟩ := h.get hlt
        obtain ⟨b, off, rfl, hbb, hw, c0, c1, c2, c3, c4, c5⟩ := h.at' hik
        have hd := drop_get hik
        obtain ⟨hc, _⟩ := bcell hb
        have g0 := (hc b _ hbb).trans c0
        have g1 := (hc b _ hbb).trans c1
        have g2 := (hc b _ hbb).trans c2
        have g3 := (hc b _ hbb).trans c3
        have g4 := (hc b _ hbb).trans c4
        have g5 := (hc b _ hbb).trans c5
        have hcap := h.cap_le
        have hbb2 : b < wr.heap.size := Nat.lt_of_lt_of_le hbb hsb
        have hstep : readG (rdStep M i) (l.drop (k + 1)) = RR := by have := hres.out; rw [hd, readG_cons] at this; exact this
        have Hstep := Lib.hid hstep
        have hwa := hw.a
        have hwx := hw.x
        have hwn := hw.n
        clear hik hd hc c0 c1 c2 c3 c4 c5 hres hstep
        go_upto_region 6 with fail
        refine wp_world' (Φ := fun Y => Below wr.heap.size wr Y ∧ Y.heap[wr.heap.size]? = some (.cells #[.int .i64 i.op, .int .i64 i.x, .int .i64 i.a, .string i.name, .int .i64 i.n, .bool i.neg] 48 (0, 0)))
          ⟨(Below.refl _ _).alloc (Nat.le_refl _) _, alloc_at rfl⟩ ?_
        rintro Y ⟨hbY, y6⟩
        obtain ⟨g6, hg6⟩ : ∃ g6, g6 = wr.heap.size := ⟨_, rfl⟩
        rw [← hg6] at y6 ⊢
        have hRY : RdAt Y w.heap.size br mv ms mq mi ml M ⟨[], 0⟩ := ⟨(hbY.block br (block_lt hR.blk)).trans hR.blk, hR.hv.below hbY, hR.hs.below hbY, hR.hq.below hbY, hR.hi.below hbY, hR.st.below hbY, hR.low, hR.ne⟩
        have hOY : Opn Y w.heap.size ml M.structs M.opn := hO.keep fun g x hx => hbY.block g (block_lt hx)
        have hbwY := hb.trans (hbY.mono hsb)
        have hg6w : w.heap.size ≤ g6 := by omega
        have hl6 := block_lt y6
        have j0 := cells_of y6 0
        have j1 := cells_of y6 1
        have j2 := cells_of y6 2
        have j3 := cells_of y6 3
        have j4 := cells_of y6 4
        have j5 := cells_of y6 5
        have r0 := cells_of hRY.blk 0
        have r1 := cells_of hRY.blk 1
        have r2 := cells_of hRY.blk 2
        have r3 := cells_of hRY.blk 3
        have r4 := cells_of hRY.blk 4
        have rl := block_lt hRY.blk
        simp at j0 j1 j2 j3 j4 j5 r0 r1 r2 r3 r4
        have hYwr := hbY.size
        have HO := Lib.hid hO
        have HbY := Lib.hid hbY
        have hg6e := Lib.hid hg6
        clear hg6 g0 g1 g2 g3 g4 g5 hO hR hbY hb
        by_cases c12 : i.op = 1 ∨ i.op = 2
        · have hst : rdStep M i = { M with same := pt M.same i.a i.x } := by unfold rdStep; rw [if_pos c12]
          have Hst := Lib.hid hst
          clear hst
          obtain ⟨w2, hrun, hq2, hg2⟩ := run_map_put (w := Y.drew) (t := 61) 3 Try.underlying3 Try.underlying61 (hRY.hq.below (Below.refl _ _).drew) (by rw [len_ivals]; omega) (.int .i64 i.x) hwa
          rw [put_ivals] at hq2
          have hbd : Below Y.heap.size Y Y.drew := (Below.refl _ _).drew
          have hR2 := (hRY.below hbd).same hg2 hq2
          have hO2 := (hOY.keep (w' := Y.drew) (fun _ _ _ => rfl)).map (hRY.hq.below hbd) hg2
          have hb2 : Below w.heap.size w w2 := Below.grown (hbwY.trans (hbd.mono hbwY.size)) hg2 hbwY.size (by intro k hk; cases hk; exact hRY.low.2.2.2.1)
          have ng6 : some g6 ≠ some mq := by simpa using map_ne hRY.hq y6
          have k0 := cells_of hR2.blk 2
          have k6 : w2.heap[g6]? = some _ := (hg2.block g6 hl6 ng6).trans y6
          have k1 := cells_of k6 1
          have k2 := cells_of k6 2
          simp at k0 k1 k2
          rcases c12 with cop | cop
          all_goals
            go_upto_region 9 with fail
            go_region_held3 (fun w' => w'.cell? ⟨br, 2, none⟩ = some (.map (some mq)) ∧ w'.cell? ⟨g6, 1, none⟩ = some (.int .i64 i.x) ∧ w'.cell? ⟨g6, 2, none⟩ = some (.int .i64 i.a))
              (first | assumption | go_keep)
              (fail)
            all_goals
              go_wp2_with fail
              go_roundw
              case rel => exact ⟨k + 1, { M with same := pt M.same i.a i.x }, ml, by omega, by go_num, rfl, hR2, hO2, ho64, ⟨Nat.le_trans (length_pt _ _ _) (by omega), Nat.le_succ_of_le hil, Nat.le_succ_of_le htl⟩, fun j row hr => by have := hrl j row hr; omega, by rw [← Hst.out]; exact Hstep, hb2⟩
              case measure => simp [intOf]; omega
        · by_cases c3 : i.op = 3
          · have hst : rdStep M i = { M with ints := pt M.ints i.a i.n } := by unfold rdStep; rw [if_neg c12, if_pos c3]
            have Hst := Lib.hid hst
            clear hst
            obtain ⟨w2, hrun, hq2, hg2⟩ := run_map_put (w := Y.drew) (t := 61) 3 Try.underlying3 Try.underlying61 (hRY.hi.below (Below.refl _ _).drew) (by rw [len_ivals]; omega) (.int .i64 i.n) hwa
            rw [put_ivals] at hq2
            have hbd : Below Y.heap.size Y Y.drew := (Below.refl _ _).drew
            have hR2 := (hRY.below hbd).ints hg2 hq2
            have hO2 := (hOY.keep (w' := Y.drew) (fun _ _ _ => rfl)).map (hRY.hi.below hbd) hg2
            have hb2 : Below w.heap.size w w2 := Below.grown (hbwY.trans (hbd.mono hbwY.size)) hg2 hbwY.size (by intro k hk; cases hk; exact hRY.low.2.2.2.2)
            have ng6 : some g6 ≠ some mi := by simpa using map_ne hRY.hi y6
            have k0 := cells_of hR2.blk 3
            have k6 : w2.heap[g6]? = some _ := (hg2.block g6 hl6 ng6).trans y6
            have k1 := cells_of k6 4
            have k2 := cells_of k6 2
            simp at k0 k1 k2
            go_upto_region 11 with fail
            go_region_held3 (fun w' => w'.cell? ⟨br, 3, none⟩ = some (.map (some mi)) ∧ w'.cell? ⟨g6, 4, none⟩ = some (.int .i64 i.n) ∧ w'.cell? ⟨g6, 2, none⟩ = some (.int .i64 i.a))
              (first | assumption | go_keep)
              (fail)
            all_goals
              go_wp2_with fail
              go_roundw
              case rel => exact ⟨k + 1, { M with ints := pt M.ints i.a i.n }, ml, by omega, by go_num, rfl, hR2, hO2, ho64, ⟨Nat.le_succ_of_le hsl, Nat.le_trans (length_pt _ _ _) (by omega), Nat.le_succ_of_le htl⟩, fun j row hr => by have := hrl j row hr; omega, by rw [← Hst.out]; exact Hstep, hb2⟩
              case measure => simp [intOf]; omega
          · by_cases c48 : i.op = 4 ∨ i.op = 8
            · have hst : rdStep M i = { M with structs := pt M.structs i.a [i], opn := i.a } := by unfold rdStep; rw [if_neg c12, if_neg c3, if_pos c48]
              have Hst := Lib.hid hst
              clear hst
              have hbd : Below Y.heap.size Y (Y.alloc (.cells #[.int .i64 i.op, .int .i64 i.x, .int .i64 i.a, .string i.name, .int .i64 i.n, .bool i.neg] 48)).drew := ((Below.refl _ _).alloc (Nat.le_refl _) _).drew
              have hmlen := hRY.st.len
              obtain ⟨w2, hrun, hq2, hg2⟩ := run_map_put (w := (Y.alloc (.cells #[.int .i64 i.op, .int .i64 i.x, .int .i64 i.a, .string i.name, .int .i64 i.n, .bool i.neg] 48)).drew) (t := 105) 26 Try.underlying3 Try.underlying105 (hRY.hs.below hbd) (by omega) (.slice (some ⟨Y.heap.size, 0, none⟩) 1 1) hwa
              clear hmlen
              have hnew : (Y.alloc (.cells #[.int .i64 i.op, .int .i64 i.x, .int .i64 i.a, .string i.name, .int .i64 i.n, .bool i.neg] 48)).drew.heap[Y.heap.size]? = some (.cells #[.int .i64 i.op, .int .i64 i.x, .int .i64 i.a, .string i.name, .int .i64 i.n, .bool i.neg] 48 (0, 0)) := alloc_at (w := Y) rfl
              have hRB := hRY.below hbd
              have hnw2 := (hg2.block _ (block_lt hnew) (by simpa using map_ne hRB.hs hnew)).trans hnew
              have htail : TailG RIn 6 w2 w.heap.size 48 (some ⟨Y.heap.size, 0, none⟩) 1 1 [i] := ⟨rfl, [i.flat], rfl, by simp [In.flat], by simpa [In.flat] using tail_lit hnw2 hbwY.size rfl (by simp [maxLen]), fun q x v hx hv => by
                rcases q with _ | q
                · simp at hx hv; subst hx; subst hv; exact ⟨rfl, hw⟩
                · simp at hx⟩
              have hR2 := hRB.structs i.a hg2 hq2 (hRB.st.put i.a (htail.is (by omega)) (by omega) (fun _ _ _ _ _ _ _ _ hk => hk.grown hRB.hs hg2))
              have hO2 : Opn w2 w.heap.size (putA ml i.a (.slice (some ⟨Y.heap.size, 0, none⟩) 1 1)) (pt M.structs i.a [i]) i.a := fun _ => ⟨_, 1, 1, [i], by rw [look_putA, if_pos rfl], by rw [lk_pt, if_pos rfl], htail, by omega, fun q A' n' c' hq hlk a ha => by
                cases ha
                rw [look_putA, if_neg (fun e => hq e.symm)] at hlk
                rcases hRY.st.rel q with ⟨h1, _⟩ | ⟨A1, n1, c1, row, h1, h2, h3, h4⟩
                · rw [hlk] at h1; cases h1
                · rw [hlk] at h1
                  injection h1 with h1
                  injection h1 with e1 e2 e3
                  subst e1 e2 e3
                  exact h3.off (Nat.le_refl _)⟩
              have hb2 : Below w.heap.size w w2 := Below.grown (hbwY.trans (hbd.mono hbwY.size)) hg2 (Nat.le_trans hbwY.size hbd.size) (by intro k hk; cases hk; exact hRY.low.2.2.1)
              have ng6 : some g6 ≠ some ms := by simpa using map_ne hRY.hs y6
              have k0 := cells_of hR2.blk 1
              have k6 : w2.heap[g6]? = some _ := (hg2.block g6 (Nat.lt_of_lt_of_le hl6 hbd.size) ng6).trans ((hbd.block g6 hl6).trans y6)
              have k1 := cells_of k6 0
              have k2 := cells_of k6 1
              have k3 := cells_of k6 2
              have k4 := cells_of k6 3
              have k5 := cells_of k6 4
              have k7 := cells_of k6 5
              simp at k0 k1 k2 k3 k4 k5 k7
              clear htail hnw2 hnew hRB k6
              rcases c48 with cop | cop
              all_goals
                go_upto_region 15 with fail
                clear cop
                go_region_held3 (fun w' => w'.cell? ⟨br, 1, none⟩ = some (.map (some ms)) ∧ w'.cell? ⟨g6, 0, none⟩ = some (.int .i64 i.op) ∧ w'.cell? ⟨g6, 1, none⟩ = some (.int .i64 i.x) ∧ w'.cell? ⟨g6, 2, none⟩ = some (.int .i64 i.a) ∧ w'.cell? ⟨g6, 3, none⟩ = some (.string i.name) ∧ w'.cell? ⟨g6, 4, none⟩ = some (.int .i64 i.n) ∧ w'.cell? ⟨g6, 5, none⟩ = some (.bool i.neg))
                  (first | assumption | go_keep)
                  (fail)
                all_goals
                  go_wp2_with fail
                  go_roundw
                  case rel => exact ⟨k + 1, { M with structs := pt M.structs i.a [i], opn := i.a }, _, by omega, by go_num, rfl, hR2, hO2, hwa, ⟨Nat.le_succ_of_le hsl, Nat.le_succ_of_le hil, Nat.le_trans (length_pt _ _ _) (by omega)⟩, fun j row hr => by (simp only [lk_pt] at hr; split at hr; (cases hr; simp); (have := hrl j row hr; omega)), by rw [← Hst.out]; exact Hstep, hb2⟩
                  case measure => simp [intOf]; omega
            · by_cases cpo : isPart i ∧ 0 ≤ M.opn
              · have hst : rdStep M i = { M with structs := pt M.structs M.opn ((lk M.structs M.opn).getD [] ++ [i]) } := by unfold rdStep; rw [if_neg c12, if_neg c3, if_neg c48, if_pos cpo]
                obtain ⟨cp, hopn⟩ := cpo
                obtain ⟨A, na, ca, row, hlook, hlk, htw, hna, hfar⟩ := HO.out hopn
                rw [hlk] at hst
                have Hst := Lib.hid hst
                clear hst
                have hAlt : ∀ a, A = some a → a.block < wr.heap.size := fun a ha => by
                  obtain ⟨g, off, h1, h2, _⟩ := (htw.is (by omega)).rows.choose_spec.2.2.1.cells hna
                  rw [h1] at ha; cases ha; exact h2
                have hAb : ∀ a, A = some a → w.heap.size ≤ a.block := fun a ha => by
                  obtain ⟨vs, v1, v2, v3, v4⟩ := htw.rows
                  rcases v3.form with h0 | ⟨g, off, cur, h1, h2, _⟩
                  · have := v3.hcap; omega
                  · rw [h1] at ha; cases ha; exact h2
                have hAg : ∀ a, A = some a → a.block ≠ g6 := fun a ha => by have := hAlt a ha; have := hg6e.out; omega
                have hAr : ∀ a, A = some a → a.block ≠ br := fun a ha he => by
                  obtain ⟨vs, v1, v2, v3, v4⟩ := htw.rows
                  rcases v3.form with h0 | ⟨g, off, cur, h1, h2, h3, _⟩
                  · have := v3.hcap; omega
                  · rw [h1] at ha; cases ha
                    have h4 := (HbY.out.block g (block_lt h3)).trans h3
                    simp only at he
                    rw [he, hRY.blk] at h4
                    cases h4
                have htY := htw.below keepsIn HbY.out
                obtain ⟨vs, v1, v2, v3, v4⟩ := htY.rows
                have hrlen : na = row.length := htY.len.symm
                have hna6 : na ≤ 100000 := by have := hrl _ _ hlk; omega
                have Hrlen := Lib.hid hrlen
                have hmlen : ml.length ≤ 100000 := by have := hRY.st.len; omega
                have hAY : ∀ a, A = some a → a.block < Y.heap.size := fun a ha => Nat.lt_of_lt_of_le (hAlt a ha) HbY.out.size
                have hAms : ∀ a, A = some a → a.block ≠ ms := fun a ha he => by
                  obtain ⟨g, off, h1, h2, _⟩ := (htY.is (by omega)).rows.choose_spec.2.2.1.cells hna
                  exact (htY.is (by omega)).offMap (by omega) hRY.hs.isMap.choose_spec.choose_spec hna a ha he
                have hl1 := run_map_get (w := Y.drew) (t := 105) 26 Try.underlying3 Try.underlying105 (zeroIs _) (hRY.hs.below (Below.refl _ _).drew) ho64 (r := .slice A na ca) (by rw [hlook]; rfl)
                have hl2 := run_map_get (w := (Y.alloc (.cells #[.int .i64 i.op, .int .i64 i.x, .int .i64 i.a, .string i.name, .int .i64 i.n, .bool i.neg] 48)).drew) (t := 105) 26 Try.underlying3 Try.underlying105 (zeroIs _) (hRY.hs.below ((Below.refl _ _).alloc (Nat.le_refl _) _).drew) ho64 (r := .slice A na ca) (by rw [hlook]; rfl)
                have hbd : Below Y.heap.size Y (Y.alloc (.cells #[.int .i64 i.op, .int .i64 i.x, .int .i64 i.a, .string i.name, .int .i64 i.n, .bool i.neg] 48)).drew := ((Below.refl _ _).alloc (Nat.le_refl _) _).drew
                have hRB := hRY.below hbd
                have hAB : ∀ a, A = some a → ∃ cur, (Y.alloc (.cells #[.int .i64 i.op, .int .i64 i.x, .int .i64 i.a, .string i.name, .int .i64 i.n, .bool i.neg] 48)).drew.heap[a.block]? = some (Obj.cells cur 48 (0, 0)) := fun a ha => by
                  rcases v3.form with h0 | ⟨g, off, cur, h1, h2, h3, _⟩
                  · have := v3.hcap; omega
                  · rw [h1] at ha; cases ha
                    exact ⟨cur, (hbd.block g (block_lt h3)).trans h3⟩
                have HRB := Lib.hid hRB
                have HAB := Lib.hid hAB
                have Hlk := Lib.hid hlk
                have Hv4 := Lib.hid v4
                have hv1 := Lib.hid v1
                have hv2 := Lib.hid v2
                have HtYl := Lib.hid htY.len
                have hbwW : w.heap.size ≤ (Y.alloc (.cells #[.int .i64 i.op, .int .i64 i.x, .int .i64 i.a, .string i.name, .int .i64 i.n, .bool i.neg] 48)).drew.heap.size := Nat.le_trans hbwY.size hbd.size
                have hgrow : ∀ (A1 : Option Addr) (cap1 : Nat) (w1 w2 : World), Tail w1 w.heap.size 48 6 A1 (na + 1) cap1 (vs.flatten ++ i.flat) → Apart (Y.alloc (.cells #[.int .i64 i.op, .int .i64 i.x, .int .i64 i.a, .string i.name, .int .i64 i.n, .bool i.neg] 48)).drew w1 A A1 → w1.grownBy w2 (some ms) → MapI Try.prog 3 w2 ms (putA ml M.opn (.slice A1 (na + 1) cap1)) →
                    RdAt w2 w.heap.size br mv ms mq mi (putA ml M.opn (.slice A1 (na + 1) cap1)) { M with structs := pt M.structs M.opn (row ++ [i]), opn := M.opn } ⟨[], 0⟩ ∧ Opn w2 w.heap.size (putA ml M.opn (.slice A1 (na + 1) cap1)) (pt M.structs M.opn (row ++ [i])) M.opn := fun A1 cap1 w1 w2 ht1 hap1 hg2 hq2 => by
                  have hsn : TailG RIn 6 w1 w.heap.size 48 A1 (na + 1) cap1 (row ++ [i]) := TailG.snoc ht1 htY.len v1 v2 rfl (fun q x v hx hv => v4 q x v hx hv) ⟨rfl, hw⟩
                  have h9 := RdAt.grow (opn := M.opn) (row := row) hRB hap1 hAB hAb hlk hfar hsn hbwW (Nat.succ_pos _) hg2 hq2
                  exact ⟨h9.1, h9.2.1⟩
                have Hgrow := Lib.hid hgrow
                clear hrlen hAms hRB hAB hlk v1 v2 v4 hgrow
                rcases cp with cop | cop | cop | cop | cop | cop
                all_goals
                  go_upto_region 23 with fail
                  clear cop
                  go_region_held3 (fun w' => w'.cell? ⟨br, 1, none⟩ = some (.map (some ms)) ∧ w'.cell? ⟨g6, 0, none⟩ = some (.int .i64 i.op) ∧ w'.cell? ⟨g6, 1, none⟩ = some (.int .i64 i.x) ∧ w'.cell? ⟨g6, 2, none⟩ = some (.int .i64 i.a) ∧ w'.cell? ⟨g6, 3, none⟩ = some (.string i.name) ∧ w'.cell? ⟨g6, 4, none⟩ = some (.int .i64 i.n) ∧ w'.cell? ⟨g6, 5, none⟩ = some (.bool i.neg))
                    (first | assumption | go_keep)
                    (first
                      | (refine step_append_any (xs := vs.flatten) (by rfl) (.tmp 73) (.tmp 75) 26 (by rfl) w.heap.size 48 Try.underlying26 infoIn (by rfl) (by omega) (by rfl) ?_ ?_ (by rfl) ?_ (oneIn i) (by omega) (by omega) ?_ ?_ ?_; (focus (refine v3.below ?_; exact by repeat (first | exact Below.refl _ _ | refine Below.drew ?_ | refine Below.alloc ?_ ?_ _ | exact Nat.le_refl _ | (first | omega | (simp; done) | (simp; omega))))); (focus (intro b hb; have hq := hAY b hb; first | omega | (simp; omega))); (focus (exact Sl.blk (cs := #[.int .i64 i.op, .int .i64 i.x, .int .i64 i.a, .string i.name, .int .i64 i.n, .bool i.neg]) (t := 48) (alloc_at (w := Y) rfl) rfl (by simp [maxLen]))); (focus (first | omega | (simp; omega))); (focus (exact v3.none_cap)); intro A1 cap1 w1 ht1 hbn1 hap1; obtain ⟨hm1, hbr1⟩ := HRB.out.ms1 hap1 HAB.out; obtain ⟨w2, hrun, hq2, hg2⟩ := run_map_put (w := w1) (t := 105) 26 Try.underlying3 Try.underlying105 hm1 (by omega) (.slice A1 (na + 1) cap1) ho64; have hRO := Hgrow.out A1 cap1 w1 w2 ht1 hap1 hg2 hq2; have x1 := hbr1.trans HRB.out.blk; have x6 := (hap1.old g6 (Nat.lt_of_lt_of_le hl6 hbd.size) hAg).trans ((hbd.block g6 hl6).trans y6); have p0 := cells_of x1 1; have p1 := cells_of x6 0; have p2 := cells_of x6 1; have p3 := cells_of x6 2; have p4 := cells_of x6 3; have p5 := cells_of x6 4; have p6 := cells_of x6 5; have x62 := (hg2.block g6 (block_lt x6) (by simpa using map_ne hm1 x6)).trans x6; have o0 := cells_of hRO.1.blk 1; have o1 := cells_of x62 0; have o2 := cells_of x62 1; have o3 := cells_of x62 2; have o4 := cells_of x62 3; have o5 := cells_of x62 4; have o6 := cells_of x62 5; simp at p0 p1 p2 p3 p4 p5 p6 o0 o1 o2 o3 o4 o5 o6)
                      | fail)
                  all_goals
                    go_wp2_with fail
                    go_roundw
                    case rel => exact ⟨k + 1, { M with structs := pt M.structs M.opn (row ++ [i]), opn := M.opn }, _, by omega, by go_num, rfl, hRO.1, hRO.2, ho64, ⟨Nat.le_succ_of_le hsl, Nat.le_succ_of_le hil, Nat.le_trans (length_pt _ _ _) (by omega)⟩, fun j rw hr => by (simp only [lk_pt] at hr; split at hr; (cases hr; have := hrl _ _ Hlk.out; simp; omega); (have := hrl j rw hr; omega)), by rw [Hst.out] at Hstep; exact Hstep, Below.grown ((hbwY.trans (hbd.mono hbwY.size)).trans hbn1) hg2 (Nat.le_trans hbwW hap1.size) (by intro k hk; cases hk; exact hRY.low.2.2.1)⟩
                    case measure => simp [intOf]; omega
              · have hst : rdStep M i = M := by unfold rdStep; rw [if_neg c12, if_neg c3, if_neg c48, if_neg cpo]
                rw [hst] at Hstep
                have cn1 : ¬ i.op = 1 := fun h => c12 (.inl h)
                have cn2 : ¬ i.op = 2 := fun h => c12 (.inr h)
                have cn4 : ¬ i.op = 4 := fun h => c48 (.inl h)
                have cn8 : ¬ i.op = 8 := fun h => c48 (.inr h)
                by_cases hp : isPart i
                · have hneg : ¬ (0 : Int) ≤ M.opn := fun h => cpo ⟨hp, h⟩
                  clear cpo hst c12 c48
                  rcases hp with cop | cop | cop | cop | cop | cop
                  all_goals
                    go_wp2_with fail
                    go_roundw
                    case rel => exact ⟨k + 1, M, ml, by omega, by go_num, rfl, hRY, hOY, ho64, ⟨Nat.le_succ_of_le hsl, Nat.le_succ_of_le hil, Nat.le_succ_of_le htl⟩, fun j rw hr => Nat.le_succ_of_le (hrl j rw hr), Hstep, hbwY⟩
                    case measure => simp [intOf]; omega
                · have hq : ¬ i.op = 5 ∧ ¬ i.op = 6 ∧ ¬ i.op = 7 ∧ ¬ i.op = 9 ∧ ¬ i.op = 10 ∧ ¬ i.op = 11 := ⟨fun h => hp (.inl h), fun h => hp (.inr (.inl h)), fun h => hp (.inr (.inr (.inl h))), fun h => hp (.inr (.inr (.inr (.inl h)))), fun h => hp (.inr (.inr (.inr (.inr (.inl h))))), fun h => hp (.inr (.inr (.inr (.inr (.inr h)))))⟩
                  obtain ⟨cn5, cn6, cn7, cn9, cn10, cn11⟩ := hq
                  clear cpo hst c12 c48 hp
                  go_wp2_with fail
                  go_roundw
                  case rel => exact ⟨k + 1, M, ml, by omega, by go_num, rfl, hRY, hOY, ho64, ⟨Nat.le_succ_of_le hsl, Nat.le_succ_of_le hil, Nat.le_succ_of_le htl⟩, fun j rw hr => Nat.le_succ_of_le (hrl j rw hr), Hstep, hbwY⟩
                  case measure => simp [intOf]; omega
      · have hkn : n = k := by omega
        have hfin := hres.out
        rw [drop_end Hl.out hlt] at hfin
        have hfin1 : M = RR := hfin
        have Hfin := Lib.hid hfin1
        clear hfin hfin1
        go_wp2
        go_ret
        refine ⟨br, mv, ms, mq, mi, ml, rfl, ?_, hb⟩
        rw [HRR.out, ← Hfin.out]
        exact hR
end Go.Proofs.Ytdeaeiolehglaaa
