/- The walk of the document's heads. -/
import Derived.Test.YtdeaeiolehglaaaUnis
set_option linter.unusedVariables false
set_option linter.unusedSimpArgs false
namespace Go.Proofs.Ytdeaeiolehglaaa
open Go.RowKit

/-- a state is handed back -/
def RetHs (w : World) (s : St) (e : Ending) (w' : World) : Prop := ∃ A n c B m d D p q, e = .returned (stVal A n c B m d D p q s.next) ∧ StAt w' A n c B m d D p q s ∧ Below w.heap.size w w'

set_option maxRecDepth 100000 in
set_option maxHeartbeats 8000000 in
theorem heads_any (W : World) (fuel0 : Nat) (s : St) (row0 : List (Tm × Int)) (A : Option Addr) (n c : Nat) (B : Option Addr) (m d : Nat) (D : Option Addr) (p e : Nat) (R : Option Addr) (nr cr : Nat) (w : World) (h : StAt w A n c B m d D p e s) (hs : s.fit 100000) (hr : s.room (rwt row0)) (hok : RowOk row0) (hf : rsz row0 ≤ fuel0)
    (hR : IsG (RArgW W) 2 w R nr cr row0) (hbW : Below W.heap.size W w) :
    Calls Try.prog 34 #[stVal A n c B m d D p e s.next, .slice R nr cr] w (RetHs w (headsF fuel0 s row0)) := by
  unfold stVal
  go_enter Try.func34, Try.ntmps34
  go_upto_region 1 with fail
  (refine wp_world' (Φ := fun X => Below w.heap.size w X ∧ w.heap.size + 2 ≤ X.heap.size ∧ X.heap[w.heap.size]? = some (.cells #[.slice A n c, .int .i64 s.next, .slice B m d, .slice D p e] 72 (0, 0)) ∧ X.heap[w.heap.size + 1]? = some (.cells #[.slice none 0 0, .int .i64 0, .slice none 0 0, .slice none 0 0] 72 (0, 0))) ⟨((Below.refl _ _).alloc (Nat.le_refl _) _).alloc (by simp) _, by simp, (alloc_past (by simp)).trans (alloc_at rfl), alloc_at (by simp)⟩ ?_)
  rintro X ⟨hbX, hsX, x0, x1⟩
  obtain ⟨b1, hb1⟩ : ∃ b1, b1 = w.heap.size + 1 := ⟨_, rfl⟩
  obtain ⟨b0, hb0⟩ : ∃ b0, b0 = w.heap.size := ⟨_, rfl⟩
  rw [← hb1] at x1 ⊢
  rw [← hb0] at x0 ⊢
  have hne1 : ¬ b1 = b0 := by omega
  have hne2 : ¬ b0 = b1 := by omega
  have hl0 : b0 < X.heap.size := by omega
  have hl1 : b1 < X.heap.size := by omega
  have hw0 : w.heap.size ≤ b0 := by omega
  have hw1 : w.heap.size ≤ b1 := by omega
  have hwX : w.heap.size ≤ X.heap.size := by omega
  clear hb0 hb1 hsX
  have h3 := h.below hbX
  have hR3 := IsG.below (keepsArgW W) hR hbX
  have hoff := h.off hw0
  have hoffR := hR.off hw0
  have hoff1 := h.off hw1
  obtain ⟨tot, htot⟩ : ∃ tot, headsF fuel0 s row0 = tot := ⟨_, rfl⟩
  have Hr := Lib.hid hr
  have Htot := Lib.hid htot
  have Hok := Lib.hid hok
  have Hf := Lib.hid hf
  clear hr htot hok hf
  go_loopw [1] (fun rv wr => ∃ (fuel : Nat) (row : List (Tm × Int)) (s2 : St) (A2 : Option Addr) (n2 c2 : Nat) (B2 : Option Addr) (m2 d2 : Nat) (D2 : Option Addr) (p2 q2 : Nat) (R2 : Option Addr) (nr2 cr2 : Nat), rv = .slice R2 nr2 cr2 ∧
      wr.heap[b0]? = some (.cells #[.slice A2 n2 c2, .int .i64 s2.next, .slice B2 m2 d2, .slice D2 p2 q2] 72 (0, 0)) ∧ StAt wr A2 n2 c2 B2 m2 d2 D2 p2 q2 s2 ∧ (Off A2 n2 b0 ∧ Off B2 m2 b0 ∧ Off D2 p2 b0) ∧ s2.fit 100000 ∧ IsG (RArgW W) 2 wr R2 nr2 cr2 row ∧ Off R2 nr2 b0 ∧
      Hid (RowOk row) ∧ Hid (headsF fuel s2 row = tot) ∧ Hid (rsz row ≤ fuel) ∧ Hid (s2.room (rwt row)) ∧ But X wr b0 ∧ (NewOr X A n A2 n2 ∧ NewOr X B m B2 m2 ∧ NewOr X D p D2 p2)) (fun _ wr => 100000 - plen wr b0)
  case atStart => exact ⟨fuel0, row0, s, A, n, c, B, m, d, D, p, e, R, nr, cr, rfl, x0, h3, hoff, hs, hR3, hoffR, Hok, Htot, Hf, Hr, But.refl _ _, .inl ⟨rfl, rfl⟩, .inl ⟨rfl, rfl⟩, .inl ⟨rfl, rfl⟩⟩
  case round =>
    clear h3 hs hR3 Hok Hf Hr
    obtain ⟨fuel, row, s2, A2, n2, c2, B2, m2, d2, D2, p2, q2, R2, nr2, cr2, rfl, hx0, h2, ⟨hoA, hoB, hoD⟩, hfit, hR2, hoR, hrok, hres, hfuel, hroom, hbut, hnA, hnB, hnD⟩ := hrel
    have hlen := hR2.len
    have hsw := hbut.size
    cases row with
    | nil =>
      have hn0 : nr2 = 0 := by simpa using hlen.symm
      subst hn0
      have z1 := (hbut.block b1 hl1 hne1).trans x1
      obtain ⟨y0, y1, y2, y3, f0, f1, f2, f3, bl0⟩ := open4 hx0
      obtain ⟨i0, i1, i2, i3, k0, k1, k2, k3, bl1⟩ := open4 z1
      have hfin := hres.out
      rw [headsF_nil] at hfin
      have hbw : Below w.heap.size w wr := hbX.trans (hbut.below hw0 hwX)
      go_wp2
      refine bodyPost_ret (v := stVal A2 n2 c2 B2 m2 d2 D2 p2 q2 s2.next) (by simp [results, Try.results34, go_sem, stVal, *]) rfl ?_
      rw [Htot.out, ← hfin]
      exact ⟨A2, n2, c2, B2, m2, d2, D2, p2, q2, rfl, h2.but4 (hoff1.1.new hl1 hnA) (hoff1.2.1.new hl1 hnB) (hoff1.2.2.new hl1 hnD) _ _ _ _, hbw.trans ((But.below (but4 _ _ _ _ _ _) hw1 hbw.size))⟩
    | cons pr row =>
      obtain ⟨t, reg⟩ := pr
      obtain ⟨ht1, ht2, hrg0, hrg1⟩ := hrok.out (t, reg) (by simp)
      simp only at ht1 ht2 hrg0 hrg1
      obtain ⟨b, off, v, rfl, hbb, hv2, ⟨A', n', c', rfl, hcW⟩, hcells⟩ := hR2.at_ (i := 0) rfl
      have d0 := hcells 0 _ rfl
      have d1 := hcells 1 _ rfl
      simp only [Nat.zero_mul, Nat.add_zero] at d0 d1
      obtain ⟨b', off', rfl, hb', e0, e1, e2, hn'⟩ := hcW.tm
      have hWr : Below W.heap.size W wr := hbW.trans ((hbX.trans (hbut.below hw0 hwX)).mono hbW.size)
      obtain ⟨hcW', hfW'⟩ := bcell hWr
      have e0' := (hcW' b' off' hb').trans e0
      have e1' := (hcW' b' (off' + 1) hb').trans e1
      have e2' := (hcW' b' (off' + 2) hb').trans e2
      have hlt' : b' < wr.heap.size := Nat.lt_of_lt_of_le hb' hWr.size
      have hnr : nr2 = row.length + 1 := by simpa using hlen.symm
      have hcapr := hR2.cap_le
      have hn0 : (0 : Int) < (nr2 : Int) := by omega
      have hn0' : (0 : Int) < (n' : Int) := by omega
      simp only at d0 d1 e0' e1' e2' hcW
      clear hcells hcW' hfW' e0 e1 e2 hv2
      have hlb0 := block_lt hx0
      obtain ⟨g5, hg5⟩ : ∃ g5, g5 = wr.heap.size := ⟨_, rfl⟩
      obtain ⟨g6, hg6⟩ : ∃ g6, g6 = wr.heap.size + 1 := ⟨_, rfl⟩
      go_upto_region 8 with fail
      refine wp_world' (Φ := fun Y => Below wr.heap.size wr Y ∧ wr.heap.size + 2 ≤ Y.heap.size ∧ Y.heap[wr.heap.size]? = some (.cells #[.slice (some ⟨b', off', none⟩) n' c', .int .i64 reg] 69 (0, 0)) ∧ Y.heap[wr.heap.size + 1]? = some (.cells #[.int .i64 t.c0.kind, .string t.c0.name, .int .i64 t.c0.n] 45 (0, 0)))
        ⟨((Below.refl _ _).alloc (Nat.le_refl _) _).alloc (by simp) _, by simp, (alloc_past (by simp)).trans (alloc_at rfl), alloc_at (by simp)⟩ ?_
      rintro Y ⟨hbY, hsY, y5, y6⟩
      rw [← hg6] at y6 ⊢
      rw [← hg5] at y5 ⊢
      have hg5w : wr.heap.size ≤ g5 := by omega
      have hg6w : wr.heap.size ≤ g6 := by omega
      have hg50 : ¬ g5 = b0 := by omega
      have hg60 : ¬ g6 = b0 := by omega
      have hg05 : ¬ b0 = g5 := by omega
      have hg06 : ¬ b0 = g6 := by omega
      clear hg5 hg6 hsY
      have hY0 := (hbY.block b0 hlb0).trans hx0
      obtain ⟨y0, y1, y2, y3, f0, f1, f2, f3, bl0⟩ := open4 hY0
      obtain ⟨a0, a1, al⟩ := open2 y5
      obtain ⟨k0, k1, k2, kl⟩ := open3 y6
      have hstY := h2.below hbY
      have hcut : IsG (RArgW W) 2 Y (if cr2 = 1 then some ⟨b, off, none⟩ else some ⟨b, off + 2, none⟩) row.length (cr2 - 1) row := by
        have h1 := (IsG.below (keepsArgW W) hR2 hbY).drop (m := 1) (by omega)
        have h2 : (if cr2 = 1 then (some ⟨b, off, none⟩ : Option Addr) else (some (⟨b, off, none⟩ : Addr)).map (·.add (1 * 2))) = if cr2 = 1 then some ⟨b, off, none⟩ else some ⟨b, off + 2, none⟩ := by split <;> simp [Addr.add]
        rw [h2, hnr] at h1
        exact h1
      have hoRc : Off (if cr2 = 1 then some ⟨b, off, none⟩ else some ⟨b, off + 2, none⟩) row.length b0 := fun _ a ha => by
        have h1 := hoR (by omega) _ rfl
        split at ha <;> cases ha <;> exact h1
      generalize (if cr2 = 1 then (some ⟨b, off, none⟩ : Option Addr) else some ⟨b, off + 2, none⟩) = Rc at hcut hoRc ⊢
      have hrm := hroom.out
      obtain ⟨fuel, rfl⟩ : ∃ f, fuel = f + 1 := ⟨fuel - 1, by have := hfuel.out; simp only [rsz] at this; have := t.size_pos; omega⟩
      have hst : s2.room (1 + 2 * sizes t.args + rwt row) := hrm.le (by simp only [rwt]; omega)
      have hrok2 := headF_ok ht1 ht2 (hst.le (by simp only; omega)) (s := s2) (p := (t, reg))
      have hroom2 := headF_room (s := s2) (p := (t, reg)) hst
      have hres2 := hres.out
      rw [headsF_cons] at hres2
      have hfu2 : rsz (row ++ (headF s2 (t, reg)).2) ≤ fuel := by
        have h1 := hfuel.out
        have h2 := headF_rsz s2 (t, reg)
        rw [rsz_append]
        simp only [rsz] at h1
        simp only at h2
        omega
      have hrow2 : RowOk row := fun p hp => hrok.out p (by simp [hp])
      have hroomr : (headF s2 (t, reg)).1.room (rwt (row ++ (headF s2 (t, reg)).2)) := by rw [rwt_append]; exact hroom2.le (by omega)
      have hcodeF := headF_code s2 (t, reg)
      have Hhead := Lib.hid (And.intro (RowOk.append hrow2 hrok2) (And.intro hroomr (And.intro hres2 (And.intro hfu2 hcodeF))))
      have hcode := hst.code
      have hnext := hst.next
      have hlen2 : n2 ≤ 100000 := by have := h2.code.len; omega
      have Hpl := Lib.hid ((plen_at hx0).trans h2.code.len.symm)
      clear hrok2 hroom2 hres2 hfu2 hrow2 hrm hrok hroom hfuel hres hroomr hcodeF
      cases t with
      | v x =>
        have hvx : i64 x := (c0_wf ht1).n
        simp only [Tm.c0] at k0 k1 k2
        obtain ⟨s5, hs5⟩ : ∃ s5, (regF s2 x).1 = s5 := ⟨_, rfl⟩
        obtain ⟨r5, hr5⟩ : ∃ r5, (regF s2 x).2.1 = r5 := ⟨_, rfl⟩
        obtain ⟨fst5, hf5⟩ : ∃ f5, (regF s2 x).2.2 = f5 := ⟨_, rfl⟩
        have hone : headF s2 (.v x, reg) = (s5.emit { op := if fst5 then 1 else 2, x := r5, a := reg }, []) := by rw [← hs5, ← hr5, ← hf5]; rfl
        have hrm1 : s2.room 1 := ⟨by omega, by omega, by have := hst.vars; omega⟩
        have hfit5 : s5.fit 100000 := by rw [← hs5]; exact fit_reg hfit hrm1 hvx
        have hr5b := regF_reg hfit x (by omega)
        have hcd5 := regF_code s2 x
        rw [hr5] at hr5b
        rw [hs5] at hcd5
        rw [hone] at Hhead
        have HS := Lib.hid hs5
        have HR := Lib.hid hr5
        have HF := Lib.hid hf5
        clear hone hs5 hr5 hf5
        go_upto_region 10 with (first
          | (go_at_call 56; go_must (refine (register_any s2 x A2 n2 c2 B2 m2 d2 D2 p2 q2 _ hstY hvx hfit).mono ?_); rw [HS.out, HR.out, HF.out]; rintro e w5 ⟨B5, m5, d5, D5, p5, q5, rfl, hst5, hnB5, hnD5, hb5⟩; have hz0 := (hb5.block b0 bl0).trans hY0; obtain ⟨z0, z1, z2, z3, h0, h1, h2', h3, wl5⟩ := open4 hz0; have nc1 : ¬ w5.heap.size = b0 := (by omega); have nc2 : ¬ b0 = w5.heap.size := (by omega); simp only [stVal]))
        refine wp_world' (Φ := fun V => Below Y.heap.size Y V ∧ V.heap[b0]? = some (.cells #[.slice A2 n2 c2, .int .i64 s2.next, .slice B2 m2 d2, .slice D2 p2 q2] 72 (0, 0)) ∧ V.heap[w5.heap.size]? = some (.cells #[.slice A2 n2 c2, .int .i64 s5.next, .slice B5 m5 d5, .slice D5 p5 q5] 72 (0, 0)) ∧ StAt V A2 n2 c2 B5 m5 d5 D5 p5 q5 s5)
          ⟨hb5.alloc hb5.size _, (alloc_past wl5).trans hz0, alloc_at rfl, hst5.below ((Below.refl _ _).alloc (Nat.le_refl _) _)⟩ ?_
        rintro V ⟨hbV, v0, vN, hstV⟩
        clear z0 z1 z2 z3 h0 h1 h2' h3 wl5 hst5 y0 y1 y2 y3 f0 f1 f2 f3 hz0
        obtain ⟨y0, y1, y2, y3, f0, f1, f2, f3, vl0⟩ := open4 v0
        obtain ⟨z0, z1, z2, z3, -, -, -, -, vlN⟩ := open4 vN
        generalize w5.heap.size = gN at *
        have a1V := (hbV.cell (p := ⟨g5, 1, none⟩) al).trans a1
        have alV := Nat.lt_of_lt_of_le al hbV.size
        go_upto_region 11 with fail
        have hYV := But.of (b := b0) hbV
        refine wp_world' (Φ := fun U => But Y U b0 ∧ U.heap[b0]? = some (.cells #[.slice A2 n2 c2, .int .i64 s5.next, .slice B5 m5 d5, .slice D5 p5 q5] 72 (0, 0)) ∧ U.cell? ⟨g5, 1, none⟩ = some (.int .i64 reg) ∧ StAt U A2 n2 c2 B5 m5 d5 D5 p5 q5 s5)
          ⟨hYV.trans (but4 _ _ _ _ _ _), set4 v0 _ _ _ _, (World.cell?_of_block (a := ⟨g5, 1, none⟩) ((but4 _ _ _ _ _ _).block g5 alV hg50)).trans a1V, hstV.but4 hoA (hoB.new bl0 hnB5) (hoD.new bl0 hnD5) _ _ _ _⟩ ?_
        rintro U ⟨hbU, u0, ug, hstU⟩
        have hoB5 := hoB.new bl0 hnB5
        have hoD5 := hoD.new bl0 hnD5
        clear y0 y1 y2 y3 f0 f1 f2 f3 z0 z1 z2 z3 vl0 v0 vN hstV a1V hYV vlN
        obtain ⟨y0, y1, y2, y3, f0, f1, f2, f3, ul0⟩ := open4 u0
        cases fst5
        all_goals
          go_wp2_with (first
            | (go_at_call 36; go_must (refine (remit_any s5 { op := _, x := r5, a := reg } A2 n2 c2 B5 m5 d5 D5 p5 q5 _ hstU (wfI (i64_small (by decide) (by decide)) (i64_small (by omega) (by omega)) (i64_small (by omega) (by omega)) i64_0 empty_size) hlen2).mono ?_); rintro e w7 ⟨A7, n7, c7, rfl, hst7, hnA7, hb7⟩; have v07 := (hb7.block b0 ul0).trans u0; obtain ⟨e0, e1, e2, e3, h0, h1, h2', h3, v7l⟩ := open4 v07; simp only [stVal]))
          simp only [Bool.false_eq_true, if_false, if_true, List.append_nil] at Hhead
          have hcl7 : s5.code.length + 1 ≤ 100000 := by rw [hcd5]; omega
          have hoA7 := hoA.new ul0 hnA7
          go_roundw
          case rel => exact ⟨fuel, row, s5.emit _, A7, n7, c7, B5, m5, d5, D5, p5, q5, Rc, row.length, _, rfl, set4 v07 _ _ _ _, hst7.but4 hoA7 hoB5 hoD5 _ _ _ _, ⟨hoA7, hoB5, hoD5⟩, fit_emit hfit5 hcl7 (wfI (i64_small (by decide) (by decide)) (i64_small (by omega) (by omega)) (i64_small (by omega) (by omega)) i64_0 empty_size), ((hcut.but (keepsArgWb W) hbU hoRc).but (keepsArgWb W) (But.of hb7) hoRc).but4 (keepsArgWb W) hoRc _ _ _ _, hoRc, Lib.hid Hhead.out.1, Lib.hid Hhead.out.2.2.1, Lib.hid Hhead.out.2.2.2.1, Lib.hid Hhead.out.2.1, hbut.trans ((But.of hbY).trans (hbU.trans ((But.of hb7).trans (but4 _ _ _ _ _ _)))), hnA.trans (hnA7.lower (by have := hbU.size; have := hbY.size; omega)) (Nat.le_refl _), hnB.trans (hnB5.lower (by have := hbY.size; omega)) (Nat.le_refl _), hnD.trans (hnD5.lower (by have := hbY.size; omega)) (Nat.le_refl _)⟩
          case measure =>
            have q1 := plen_at (set4 v07 (.slice A7 n7 c7) (.int .i64 s5.next) (.slice B5 m5 d5) (.slice D5 p5 q5))
            have q2 := Hpl.out
            have q3 := hst7.code.len
            have q4 : s5.code.length = s2.code.length := by rw [hcd5]
            simp [St.emit] at q3 q1 ⊢
            omega
      | i x =>
        have hvx : i64 x := (c0_wf ht1).n
        simp only [Tm.c0] at k0 k1 k2
        have hone : headF s2 (.i x, reg) = (s2.emit { op := 3, a := reg, n := x }, []) := rfl
        rw [hone] at Hhead
        simp only [List.append_nil] at Hhead
        have hwf : ({ op := 3, a := reg, n := x } : In).wf := wfI (i64_small (by decide) (by decide)) i64_0 (i64_small (by omega) (by omega)) hvx empty_size
        clear hone
        go_wp2_with (first
          | (go_at_call 36; go_must (refine (remit_any s2 { op := 3, a := reg, n := x } A2 n2 c2 B2 m2 d2 D2 p2 q2 _ hstY hwf hlen2).mono ?_); rintro e w7 ⟨A7, n7, c7, rfl, hst7, hnA7, hb7⟩; have v07 := (hb7.block b0 bl0).trans hY0; obtain ⟨e0, e1, e2, e3, h0, h1, h2', h3, v7l⟩ := open4 v07; simp only [stVal]))
        have hoA7 := hoA.new bl0 hnA7
        go_roundw
        case rel => exact ⟨fuel, row, s2.emit _, A7, n7, c7, B2, m2, d2, D2, p2, q2, Rc, row.length, _, rfl, set4 v07 _ _ _ _, hst7.but4 hoA7 hoB hoD _ _ _ _, ⟨hoA7, hoB, hoD⟩, fit_emit hfit (by omega) hwf, (hcut.but (keepsArgWb W) (But.of hb7) hoRc).but4 (keepsArgWb W) hoRc _ _ _ _, hoRc, Lib.hid Hhead.out.1, Lib.hid Hhead.out.2.2.1, Lib.hid Hhead.out.2.2.2.1, Lib.hid Hhead.out.2.1, hbut.trans ((But.of hbY).trans ((But.of hb7).trans (but4 _ _ _ _ _ _))), hnA.trans (hnA7.lower (by have := hbY.size; omega)) (Nat.le_refl _), hnB, hnD⟩
        case measure =>
          have q1 := plen_at (set4 v07 (.slice A7 n7 c7) (.int .i64 s2.next) (.slice B2 m2 d2) (.slice D2 p2 q2))
          have q2 := Hpl.out
          have q3 := hst7.code.len
          simp [St.emit] at q3 q1 ⊢
          omega
      | f nm us =>
        have hw := c0_wf ht1
        simp only [Tm.c0] at k0 k1 k2
        have hus6 := args_len ht1
        simp only [Tm.args] at hus6
        have hone : headF s2 (.f nm us, reg) = unisF (s2.emit { op := 4, a := reg, name := nm, n := us.length }) us := headF_fun s2 (.f nm us) reg rfl
        have hwf : ({ op := 4, a := reg, name := nm, n := us.length } : In).wf := wfI (i64_small (by decide) (by decide)) i64_0 (i64_small (by omega) (by omega)) (i64_small (by omega) (by omega)) hw.name
        obtain ⟨s7, hs7⟩ : ∃ s7, s2.emit { op := 4, a := reg, name := nm, n := us.length } = s7 := ⟨_, rfl⟩
        have hrm7 : s7.room (2 * sizes us) := by rw [← hs7]; exact room_emit _ (hst.le (by simp only [Tm.args]; omega))
        have hfit7 : s7.fit 100000 := by rw [← hs7]; exact fit_emit hfit (by omega) hwf
        have hnx7 : s7.next = s2.next := by rw [← hs7]; rfl
        rw [hone, hs7] at Hhead
        have Hs7 := Lib.hid hs7
        have Hnx := Lib.hid hnx7
        have hrow6 : row.length ≤ 100000 := by have := rwt_len row; omega
        clear hone hs7 hst hnx7
        go_upto_region 7 with (first
          | (go_at_call 36; go_must (refine (remit_any s2 { op := 4, a := reg, name := nm, n := us.length } A2 n2 c2 B2 m2 d2 D2 p2 q2 _ hstY hwf hlen2).mono ?_); rintro e w7 ⟨A7, n7, c7, rfl, hst7, hnA7, hb7⟩; have v07 := (hb7.block b0 bl0).trans hY0; obtain ⟨e0, e1, e2, e3, h0, h1, h2', h3, v7l⟩ := open4 v07; simp only [stVal]))
        have hoA7 := hoA.new bl0 hnA7
        have hg7 := (hb7.cell (p := ⟨g5, 0, none⟩) al).trans a0
        have hl7 := Nat.lt_of_lt_of_le al hb7.size
        have hen : (s2.emit { op := 4, a := reg, name := nm, n := us.length }).next = s7.next := by rw [Hs7.out]
        refine wp_world' (Φ := fun U => But Y U b0 ∧ U.heap[b0]? = some (.cells #[.slice A7 n7 c7, .int .i64 s7.next, .slice B2 m2 d2, .slice D2 p2 q2] 72 (0, 0)) ∧ U.cell? ⟨g5, 0, none⟩ = some (.slice (some ⟨b', off', none⟩) n' c') ∧ StAt U A7 n7 c7 B2 m2 d2 D2 p2 q2 s7)
          ⟨(But.of hb7).trans (but4 _ _ _ _ _ _), by rw [← hen]; exact set4 v07 _ _ _ _, (World.cell?_of_block (a := ⟨g5, 0, none⟩) ((but4 _ _ _ _ _ _).block g5 hl7 hg50)).trans hg7, by rw [← Hs7.out]; exact hst7.but4 hoA7 hoB hoD _ _ _ _⟩ ?_
        rintro U ⟨hbU, u0, ug, hstU⟩
        clear e0 e1 e2 e3 h0 h1 h2' h3 v7l v07 hst7 hg7 hl7 hen y0 y1 y2 y3 f0 f1 f2 f3
        obtain ⟨y0, y1, y2, y3, f0, f1, f2, f3, ul0⟩ := open4 u0
        have hWU : Below W.heap.size W U := hWr.trans ((hbY.mono hWr.size).trans (hbU.below (by have := hWr.size; have := hbW.size; omega) (by have := hWr.size; have := hbY.size; omega)))
        have hrowU := hcut.but (keepsArgWb W) hbU hoRc
        have hun := unis_any W s7 (.f nm us) row A7 n7 c7 B2 m2 d2 D2 p2 q2 Rc row.length (cr2 - 1) (some ⟨b', off', none⟩) n' c' U hstU hfit7 hrm7 hrowU hrow6 hcW hWU ht1 ht2
        have Hun := Lib.hid hun
        clear hun
        go_wp2_with (first
          | (go_at_call 57; go_must (refine Hun.out.mono ?_); rintro e w7 ⟨A8, n8, c8, B8, m8, d8, D8, p8, q8, R8, nr8, cr8, rfl, hst8, hrow8, hnA8, hnB8, hnD8, hnR8, hb8⟩; have v08 := (hb8.block b0 ul0).trans u0; obtain ⟨e0, e1, e2, e3, h0, h1, h2', h3, v8l⟩ := open4 v08; simp only [stVal]))
        have hoA8 := hoA7.new ul0 hnA8
        have hoB8 := hoB.new ul0 hnB8
        have hoD8 := hoD.new ul0 hnD8
        have hoR8 := hoRc.new ul0 hnR8
        have hxY : X.heap.size ≤ Y.heap.size := Nat.le_trans hsw hbY.size
        have hxU : X.heap.size ≤ U.heap.size := Nat.le_trans hxY hbU.size
        go_roundw
        case rel => exact ⟨fuel, row ++ (unisF s7 us).2, (unisF s7 us).1, A8, n8, c8, B8, m8, d8, D8, p8, q8, R8, nr8, cr8, rfl, set4 v08 _ _ _ _, hst8.but4 hoA8 hoB8 hoD8 _ _ _ _, ⟨hoA8, hoB8, hoD8⟩, fit_unis us s7 hfit7 hrm7 (args_ok ht1), hrow8.but4 (keepsArgWb W) hoR8 _ _ _ _, hoR8, Lib.hid Hhead.out.1, Lib.hid Hhead.out.2.2.1, Lib.hid Hhead.out.2.2.2.1, Lib.hid Hhead.out.2.1, hbut.trans ((But.of hbY).trans (hbU.trans ((But.of hb8).trans (but4 _ _ _ _ _ _)))), hnA.trans ((hnA7.lower hxY).trans (hnA8.lower hxU) (Nat.le_refl _)) (Nat.le_refl _), hnB.trans (hnB8.lower hxU) (Nat.le_refl _), hnD.trans (hnD8.lower hxU) (Nat.le_refl _)⟩
        case measure =>
          have q1 := plen_at (set4 v08 (.slice A8 n8 c8) (.int .i64 (unisF s7 us).1.next) (.slice B8 m8 d8) (.slice D8 p8 q8))
          have q2 := Hpl.out
          have q3 : (unisF s7 us).1.code.length = n8 := hst8.code.len
          have q4 := Hhead.out.2.2.2.2
          have q5 := Hhead.out.2.1.code
          simp only [Tm.args] at q1 ⊢
          rw [q1, q2]
          omega
end Go.Proofs.Ytdeaeiolehglaaa
